/- The walk of deps.Resolve. -/
import Derived.Test.YtecimlbdcldkdaaSr
namespace Go.Proofs.Ytecimlbdcldkdaa
open Go.RowKit Dep

/-- n rows of numbers that were handed back -/
def RowsOut (w : World) (base : Nat) (A : Option Addr) (n : Nat) (ls : Nat → List Nat) : Prop := ∀ k, k < n → ∃ g o v, A = some ⟨g, o, none⟩ ∧ w.cell? ⟨g, o + k, none⟩ = some v ∧ FR w base v (ls k)
def specsL (m : Nat → Nat) (e : Nat → Nat → Int) (k : Nat) : List Int := ints (specsP e k (m k))
def clean (nx : Int) (n : Nat) (m : Nat → Nat) (e : Nat → Nat → Int) : Prop := ∀ i, i < n → ∀ j, j < m i → ¬ badN nx n (e i j)
/-- what deps.Resolve tells -/
def ResSaid (nx : Int) (ns : Nat) (sz : Nat → Int) (n : Nat) (m : Nat → Nat) (e : Nat → Nat → Int) (w : World) (x : Ending) (w' : World) : Prop :=
  Below w.heap.size w w' ∧
  ((argBad nx ns sz n ∧ x = .returned (.tuple #[.slice none 0 0, .int .i64 1])) ∨
   (¬ argBad nx ns sz n ∧ ((¬ clean nx n m e ∧ x = .returned (.tuple #[.slice none 0 0, .int .i64 90])) ∨
    (clean nx n m e ∧ ((∃ o, Run n (specsL m e) [] o false ∧ x = .returned (.tuple #[.slice none 0 0, .int .i64 91])) ∨
      (∃ o, Run n (specsL m e) [] o true ∧ ∃ A c ls, x = .returned (.tuple #[.slice A n c, .int .i64 0]) ∧ RowsOut w' w.heap.size A n ls ∧ ∀ k, k < n → (ls k).Pairwise (· < ·) ∧ ∀ y, y ∈ ls k ↔ y ∈ jobsP nx sz e k (m k)))))))

theorem make_ints1 (n : Nat) (hn : n ≤ 1000) (W : World) : (Instr.makeSlice 25 (.int .i64 ((n : Int) + 1)) (.int .i64 ((n : Int) + 1))).run Try.prog W = .ok (.slice (some ⟨W.heap.size, 0, none⟩) (n + 1) (n + 1)) (W.alloc (.cells (madeCells #[.int .i64 0] (n + 1)) 3)) := by
  have := make_ints (n + 1) (by omega) W
  simpa using this

section
variable {nx : Int} {sz : Nat → Int} {n i : Nat} {m : Nat → Nat} {e : Nat → Nat → Int} {ls : Nat → List Nat}
theorem Dep.Done.upd1 (h : Done nx sz n m e i ls) (hi : i < n) (l : List Nat) : Done nx sz n m e i (upd ls i l) := fun k hk => by
  rw [upd_other _ _ (by omega), upd_other _ _ (by omega)]
  exact h k hk
theorem Dep.Done.upd2 (h : Done nx sz n m e i ls) (_hi : i < n) (l : List Nat) : Done nx sz n m e i (upd ls (n + i) l) := fun k hk => by
  rw [upd_other _ _ (by omega), upd_other _ _ (by omega)]
  exact h k hk
theorem Dep.Zero.upd1 (h : Zero n (i + 1) ls) (_hi : i < n) (l : List Nat) : Zero n (i + 1) (upd ls i l) := fun k hk hn => by
  rw [upd_other _ _ (by omega), upd_other _ _ (by omega)]
  exact h k hk hn
theorem Dep.Zero.upd2 (h : Zero n (i + 1) ls) (_hi : i < n) (l : List Nat) : Zero n (i + 1) (upd ls (n + i) l) := fun k hk hn => by
  rw [upd_other _ _ (by omega), upd_other _ _ (by omega)]
  exact h k hk hn
theorem Dep.Done.next (h : Done nx sz n m e i ls) (h1 : ls i = specsP e i (m i)) (h2 : (ls (n + i)).Pairwise (· < ·)) (h3 : ∀ x, x ∈ ls (n + i) ↔ x ∈ jobsP nx sz e i (m i)) (h4 : ∀ j, j < m i → ¬ badN nx n (e i j)) : Done nx sz n m e (i + 1) ls := fun k hk => by
  by_cases c : k = i
  · rw [c]; exact ⟨h1, h2, h3, h4⟩
  · exact h k (by omega)
end
theorem own_len (A : Option Addr) (a b c : Nat) : (Value.slice A a c).ownBlock = (Value.slice A b c).ownBlock := by cases A <;> rfl
theorem pre_getD (l : List Nat) : (List.range l.length).map (fun j => ((l.getD j 0 : Nat) : Int)) = ints l := by
  apply List.ext_getElem?
  intro j
  unfold ints
  rw [List.getElem?_map, List.getElem?_map]
  by_cases h : j < l.length
  · rw [List.getElem?_range h, List.getElem?_eq_getElem h]
    simp [List.getD_eq_getElem?_getD, List.getElem?_eq_getElem h]
  · rw [List.getElem?_eq_none (by simpa using h), List.getElem?_eq_none (by omega)]
    rfl
section
variable {w0 W W' : World} {L S n : Nat} {ft : Nat → Int} {rows : Nat → Value} {ls : Nat → List Nat}
theorem Sr.rowsS (h : Sr w0 W L S n ft rows ls) : RowsN W (some ⟨S, 0, none⟩) n (fun k => (ls k).length) (fun k j => (((ls k).getD j 0 : Nat) : Int)) := fun _ =>
  ⟨S, 0, rfl, fun k hk => by
    obtain ⟨A, cap, e⟩ := h.row (i := k) (by omega)
    have h1 := h.specs.cell hk
    have hF := h.fam.1 k (by omega)
    rw [e] at h1 hF
    rw [Nat.zero_add]
    exact ⟨A, cap, h1, hF.nums⟩⟩
theorem Sr.pass (h : Sr w0 W L S n ft rows ls) (hb : Below W.heap.size W W') : Sr w0 W' L S n ft rows ls :=
  ⟨h.blocks, h.first.keep (hb.block _ h.first.lt), h.specs.keep (hb.block _ h.specs.lt), h.jobs.keep (hb.block _ h.jobs.lt), h.fam.keep fun g _ hl => hb.block g hl, below_pass h.bel h.bel.size hb⟩
theorem Sr.rowsJ (h : Sr w0 W L S n ft rows ls) : RowsOut W w0.heap.size (some ⟨S + 1, 0, none⟩) n (fun k => ls (n + k)) := fun k hk =>
  ⟨S + 1, 0, rows (n + k), rfl, by rw [Nat.zero_add]; exact h.jobs.cell hk, (h.fam.1 (n + k) (by omega)).mono (by have := h.blocks; omega)⟩
end

set_option maxRecDepth 100000 in
set_option maxHeartbeats 16000000 in
theorem resolve_any (nx : Int) (As : Option Addr) (ns cs : Nat) (sz : Nat → Int) (hns : ns ≤ 1000) (A0 : Option Addr) (n c : Nat) (m : Nat → Nat) (e : Nat → Nat → Int) (hn : n ≤ 1000) (hm : ∀ i, i < n → m i ≤ 1000) (w : World) (hsz : NumsAt w As ns sz) (hrow : RowsN w A0 n m e) :
    Calls Try.prog 17 #[.int .i64 nx, .slice As ns cs, .slice A0 n c] w (ResSaid nx ns sz n m e w) := by
  have M1 := make_ints1 n hn
  have M2 := make_intss n (by omega)
  have HROW := Lib.hid hrow
  have HSZ := Lib.hid hsz
  have HM := Lib.hid hm
  clear hrow hsz hm
  have hnn : (n : Int) ≤ 1000 := by omega
  have hnn2 : (ns : Int) ≤ 1000 := by omega
  go_enter Try.func17, Try.ntmps17
  by_cases a1 : nx < 1
  · have HA := Lib.hid (show argBad nx ns sz n from Or.inl a1)
    go_wp2_with fail
    go_ret2
    exact ⟨Below.refl _ _, Or.inl ⟨HA.out, rfl⟩⟩
  by_cases a2 : 1099511627776 < nx
  · have HA := Lib.hid (show argBad nx ns sz n from Or.inr (Or.inl a2))
    go_wp2_with fail
    go_ret2
    exact ⟨Below.refl _ _, Or.inl ⟨HA.out, rfl⟩⟩
  by_cases a3 : (8 : Int) < (ns : Int)
  · have HA := Lib.hid (show argBad nx ns sz n from Or.inr (Or.inr (Or.inl (by omega))))
    go_wp2_with fail
    go_ret2
    exact ⟨Below.refl _ _, Or.inl ⟨HA.out, rfl⟩⟩
  by_cases a4 : n = ns
  case neg =>
    have HA := Lib.hid (show argBad nx ns sz n from Or.inr (Or.inr (Or.inr (Or.inl a4))))
    have a5 : ¬ (n : Int) = (ns : Int) := by omega
    clear a4
    go_wp2_with fail
    go_ret2
    exact ⟨Below.refl _ _, Or.inl ⟨HA.out, rfl⟩⟩
  subst a4
  have hx1 : (1 : Int) ≤ nx := by omega
  have hx2 : nx ≤ 1099511627776 := by omega
  have h8 : (n : Int) ≤ 8 := by omega
  clear a1 a2 a3
  go_upto_region 4 with fail
  go_cut [] (fun wx => ValB wx 3 w.heap.size (n + 1) (fun k => .int .i64 (if k ≤ 0 then fst nx sz k else 0)) ∧ Below w.heap.size w wx)
  case first =>
    have V : ValB (w.alloc (.cells (madeCells #[.int .i64 0] (n + 1)) 3)) 3 w.heap.size (n + 1) (fun _ => .int .i64 0) := ⟨_, Bk.new _ _ _, size_madeCells _ _, fun j hj => made_get _ _ _ hj⟩
    have c0 := V.cell (j := 0) (by omega)
    have f0 := V.free 0
    go_wp2_with fail
    go_meet
    refine ⟨⟨_, Bk.new _ _ _, by simp [size_madeCells], fun k hk => ?_⟩, (Below.refl w.heap.size w).alloc (Nat.le_refl _) _⟩
    rw [Array.getElem?_setIfInBounds]
    dsimp only
    by_cases h0 : k = 0
    · subst h0
      rw [if_pos rfl, if_pos (by rw [size_madeCells]; omega), if_pos (Nat.le_refl _)]; rfl
    · rw [if_neg (by omega), if_neg (by omega)]
      exact made_get _ _ _ hk
  case rest =>
    obtain ⟨V0, B0⟩ := hcut
    go_wp2_with fail
    go_loopg [46] n (fun g s46 wr => ∃ i : Nat, i ≤ n ∧ g = n - i ∧ s46 = .int .i64 i ∧ Hid (ValB wr 3 w.heap.size (n + 1) (fun k => .int .i64 (if k ≤ i then fst nx sz k else 0)) ∧ (∀ k, k < i → 1 ≤ sz k ∧ sz k ≤ 20) ∧ Below w.heap.size w wr))
    case atStart => exact ⟨0, by omega, by omega, rfl, Lib.hid ⟨V0, fun k hk => by omega, B0⟩⟩
    case round =>
      clear V0 B0
      obtain ⟨i, hi, hg, rfl, H⟩ := hrel
      by_cases hin : i < n
      · obtain ⟨gs, os, rfl, hc⟩ := HSZ.out (by omega)
        have r0 : wr.cell? ⟨gs, os + i, none⟩ = some (.int .i64 (sz i)) := keep_below (hc i hin) H.out.2.2
        obtain ⟨x, hx⟩ : ∃ x, Hid (sz i = x) := ⟨_, Lib.hid rfl⟩
        rw [hx.out] at r0
        clear hc
        have i0 : (0 : Int) ≤ (i : Int) := by omega
        have i1 : (i : Int) < (n : Int) := by omega
        by_cases b1 : x < 1
        · have HA := Lib.hid (show argBad nx n sz n from Or.inr (Or.inr (Or.inr (Or.inr ⟨i, hin, Or.inl (by rw [hx.out]; exact b1)⟩))))
          go_wp2_with fail
          go_ret2
          exact ⟨H.out.2.2, Or.inl ⟨HA.out, rfl⟩⟩
        by_cases b2 : 20 < x
        · have HA := Lib.hid (show argBad nx n sz n from Or.inr (Or.inr (Or.inr (Or.inr ⟨i, hin, Or.inr (by rw [hx.out]; exact b2)⟩))))
          go_wp2_with fail
          go_ret2
          exact ⟨H.out.2.2, Or.inl ⟨HA.out, rfl⟩⟩
        have b3 : 1 ≤ x := by omega
        have b4 : x ≤ 20 := by omega
        have q0 : wr.cell? ⟨w.heap.size, i, none⟩ = some (.int .i64 (fst nx sz i)) := by
          have := H.out.1.cell (j := i) (by omega)
          rw [if_pos (Nat.le_refl _)] at this
          exact this
        have q1 : wr.cell? ⟨w.heap.size, i + 1, none⟩ = some (.int .i64 0) := by
          have := H.out.1.cell (j := i + 1) (by omega)
          rw [if_neg (by omega)] at this
          exact this
        have q2 := H.out.1.free (i + 1)
        have hr := fst_range (nx := nx) H.out.2.1 i (Nat.le_refl _)
        have hz := Lib.hid (show fst nx sz (i + 1) = fst nx sz i + sz i from rfl)
        obtain ⟨y, hy⟩ : ∃ y, Hid (fst nx sz i = y) := ⟨_, Lib.hid rfl⟩
        rw [hy.out] at hr q0
        have i2 : (i : Int) + 1 < (n : Int) + 1 := by omega
        have HS := Lib.hid (H.out.1.set (i := i + 1) (by omega) (.int .i64 (y + x)))
        clear b1 b2
        go_wp2_with fail
        go_roundg (n - (i + 1))
        case measure => omega
        case rel =>
          refine ⟨i + 1, by omega, rfl, by go_num, Lib.hid ⟨HS.out.congr fun k hk => ?_, fun k hk => ?_, H.out.2.2.setCell (Nat.le_refl _) _⟩⟩
          · unfold upd
            dsimp only
            by_cases e1 : k = i + 1
            · rw [if_pos e1, if_pos (by omega), e1, hz.out, hx.out, hy.out]
            · rw [if_neg e1]
              by_cases e2 : k ≤ i
              · rw [if_pos e2, if_pos (by omega)]
              · rw [if_neg e2, if_neg (by omega)]
          · by_cases e1 : k = i
            · rw [e1, hx.out]; omega
            · exact H.out.2.1 k (by omega)
      · obtain rfl : n = i := by omega
        have hok := Lib.hid H.out.2.1
        have hna := Lib.hid (show ¬ argBad nx n sz n by
          rintro (h | h | h | h | ⟨k, hk, h⟩)
          · omega
          · omega
          · omega
          · omega
          · have := hok.out k hk; omega)
        have HV := Lib.hid (H.out.1.congr (f' := fun k => .int .i64 (fst nx sz k)) fun k hk => by rw [if_pos (by omega)])
        have hS := Lib.hid (Sr.start HV.out (Nat.le_refl _) H.out.2.2)
        clear H HV
        go_wp2_with fail
        rename World => wo
        go_loopg [76] n (fun g s76 w2 => ∃ i : Nat, i ≤ n ∧ g = n - i ∧ s76 = .int .i64 i ∧ ∃ rows ls, Hid (Sr w w2 w.heap.size wo.heap.size n (fst nx sz) rows ls ∧ Done nx sz n m e i ls ∧ Zero n i ls))
        case atStart => exact ⟨0, by omega, by omega, rfl, _, _, Lib.hid ⟨hS.out, fun k hk => by omega, fun k _ _ => ⟨rfl, rfl⟩⟩⟩
        case round =>
          clear hS
          obtain ⟨i, hi, hg, rfl, rows, ls, H⟩ := hrel
          by_cases hin : i < n
          · obtain ⟨bl, off, rfl, hrows⟩ := HROW.out (by omega)
            obtain ⟨Ai, ci, hcell, hnums⟩ := hrows i hin
            have r0 : wr.cell? ⟨bl, off + i, none⟩ = some (.slice Ai (m i) ci) := keep_below hcell H.out.1.bel
            have HN := Lib.hid hnums
            have hmi : ((m i : Nat) : Int) ≤ 1000 := by have := HM.out i hin; omega
            have i0 : (0 : Int) ≤ (i : Int) := by omega
            have i1 : (i : Int) < (n : Int) := by omega
            clear hcell hrows hnums
            go_wp2_with fail
            go_loopg [83] (m i) (fun g s83 w3 => ∃ j : Nat, j ≤ m i ∧ g = m i - j ∧ s83 = .int .i64 j ∧ ∃ rows ls, Hid (Sr w w3 w.heap.size wo.heap.size n (fst nx sz) rows ls ∧ Done nx sz n m e i ls ∧ Zero n (i + 1) ls ∧ ls i = specsP e i j ∧ ls (n + i) = jobsP nx sz e i j ∧ ∀ p, p < j → ¬ badN nx n (e i p)))
            case atStart => exact ⟨0, by omega, by omega, rfl, rows, ls, Lib.hid ⟨H.out.1, H.out.2.1, fun k hk hn => H.out.2.2 k (by omega) hn, (H.out.2.2 i (Nat.le_refl _) hin).1, (H.out.2.2 i (Nat.le_refl _) hin).2, fun p hp => by omega⟩⟩
            case round =>
              clear H r0
              obtain ⟨j, hj, hg2, rfl, rows, ls, H⟩ := hrel
              by_cases hjm : j < m i
              · obtain ⟨g1, o1, rfl, hc⟩ := HN.out (by omega)
                have r1 : wr.cell? ⟨g1, o1 + j, none⟩ = some (.int .i64 (e i j)) := keep_below (hc j hjm) H.out.1.bel
                clear hc
                obtain ⟨x, hx⟩ : ∃ x, Hid (e i j = x) := ⟨_, Lib.hid rfl⟩
                rw [hx.out] at r1
                have j0 : (0 : Int) ≤ (j : Int) := by omega
                have j1 : (j : Int) < ((m i : Nat) : Int) := by omega
                have hnc : badN nx n x → ¬ clean nx n m e := fun hb hc => hc i hin j hjm (by rw [hx.out]; exact hb)
                by_cases b1 : x = 0
                · have HB := Lib.hid (hnc (Or.inl b1))
                  subst b1
                  clear hnc
                  go_wp2_with fail
                  go_ret2
                  exact ⟨H.out.1.bel, Or.inr ⟨hna.out, Or.inl ⟨HB.out, rfl⟩⟩⟩
                by_cases b2 : nx ≤ x
                · have HB := Lib.hid (hnc (Or.inr (Or.inl b2)))
                  clear hnc
                  go_wp2_with fail
                  go_ret2
                  exact ⟨H.out.1.bel, Or.inr ⟨hna.out, Or.inl ⟨HB.out, rfl⟩⟩⟩
                by_cases b3 : x < -(n : Int)
                · have HB := Lib.hid (hnc (Or.inr (Or.inr b3)))
                  clear hnc
                  go_wp2_with fail
                  go_ret2
                  exact ⟨H.out.1.bel, Or.inr ⟨hna.out, Or.inl ⟨HB.out, rfl⟩⟩⟩
                clear hnc
                have hgood := Lib.hid (show ∀ p, p < j + 1 → ¬ badN nx n (e i p) by
                  intro p hp
                  by_cases c : p = j
                  · rw [c, hx.out]
                    rintro (h | h | h)
                    · exact b1 h
                    · exact b2 h
                    · exact b3 h
                  · exact H.out.2.2.2.2.2 p (by omega))
                have hjl := jobsP_len hok.out e i j H.out.2.2.2.2.2
                have hmi3 := HM.out i hin
                by_cases b4 : 0 < x
                · obtain ⟨t, rfl⟩ := Int.eq_ofNat_of_zero_le (by omega : 0 ≤ x)
                  have hj1 := Lib.hid (show job1 nx sz (e i j) = [t] by unfold job1; rw [hx.out, if_pos b4]; simp)
                  have hs1 := Lib.hid (show spec1 (e i j) = [] by unfold spec1; rw [hx.out, if_neg (by omega)])
                  obtain ⟨At, ct, hrt⟩ := H.out.1.row (i := n + i) (by omega)
                  rw [H.out.2.2.2.2.1] at hrt
                  obtain ⟨k, hk⟩ : ∃ k, Hid ((jobsP nx sz e i j).length = k) := ⟨_, Lib.hid rfl⟩
                  rw [hk.out] at hrt hjl
                  have HRT := Lib.hid hrt
                  have q0 : wr.cell? ⟨wo.heap.size + 1, i, none⟩ = some (.slice At k ct) := by rw [← HRT.out]; exact H.out.1.jobs.cell hin
                  have hF0 := H.out.1.fam.1 (n + i) (by omega)
                  rw [HRT.out] at hF0
                  have HF0 := Lib.hid hF0
                  have hkl : k ≤ 1000000 := by omega
                  clear hrt hF0 b1
                  go_wp2_with (first | (at_builtin; refine wpList_frpush HF0.out (k := t) hkl (by have := H.out.1.jobs.lt; omega) rfl _ _ rfl rfl rfl rfl ?_))
                  intro A' cap' W' hg5 hF5 hr5
                  obtain ⟨c1, f1, S2⟩ := H.out.1.storeJ (W' := W') hin (by rw [HRT.out]; exact hg5) hF5 (by rw [HRT.out]; exact hr5)
                  rw [HRT.out] at c1
                  have S3 := Lib.hid S2
                  clear hg5 hF5 hr5 S2 q0
                  go_wp2_with fail
                  go_roundg (m i - (j + 1))
                  case measure => omega
                  case rel =>
                    refine ⟨j + 1, by omega, rfl, by go_num, _, _, Lib.hid ⟨S3.out, H.out.2.1.upd2 hin _, H.out.2.2.1.upd2 hin _, ?_, ?_, hgood.out⟩⟩
                    · rw [upd_other _ _ (by omega), H.out.2.2.2.1, specsP_succ, hs1.out, List.append_nil]
                    · rw [upd_same, jobsP_succ, hj1.out, H.out.2.2.2.2.1]
                · obtain ⟨k, hk⟩ : ∃ k : Nat, Hid (-1 - x = (k : Int)) := ⟨(-1 - x).toNat, Lib.hid (by omega)⟩
                  have hkn : k < n := by have := hk.out; omega
                  have hj1 := Lib.hid (show job1 nx sz (e i j) = List.range' (fst nx sz k).toNat (sz k).toNat by unfold job1; rw [hx.out, if_neg b4, hk.out, Int.toNat_natCast])
                  have hs1 := Lib.hid (show spec1 (e i j) = [k] by unfold spec1; rw [hx.out, if_pos (by omega), hk.out, Int.toNat_natCast])
                  have hx3 : x < 0 := by omega
                  have hx4 : -8 ≤ x := by omega
                  have k0 : (0 : Int) ≤ (k : Int) := by omega
                  have k1 : (k : Int) < (n : Int) := by omega
                  go_upto_region 24 with fail
                  go_cut [17] (fun s17 wx => s17 = .int .i64 (k : Int) ∧ wx = wr)
                  case first =>
                    go_wp2_with fail
                    go_meet
                    exact ⟨by rw [hk.out], rfl⟩
                  case rest =>
                    obtain ⟨rfl, rfl⟩ := hcut
                    clear b1 b2 b3 b4 hx3 hx4 r1
                    have hspl := specsP_len e i j
                    obtain ⟨At, ct, hrt⟩ := H.out.1.row (i := i) (by omega)
                    rw [H.out.2.2.2.1] at hrt
                    obtain ⟨ks, hks⟩ : ∃ ks, Hid ((specsP e i j).length = ks) := ⟨_, Lib.hid rfl⟩
                    rw [hks.out] at hrt hspl
                    have HRT := Lib.hid hrt
                    have q0 : wc.cell? ⟨wo.heap.size, i, none⟩ = some (.slice At ks ct) := by rw [← HRT.out]; exact H.out.1.specs.cell hin
                    have hF0 := H.out.1.fam.1 i (by omega)
                    rw [HRT.out] at hF0
                    have HF0 := Lib.hid hF0
                    have hkl : ks ≤ 1000000 := by omega
                    clear hrt hF0
                    go_wp2_with (first | (at_builtin; refine wpList_frpush HF0.out (k := k) hkl (by have := H.out.1.jobs.lt; omega) rfl _ _ rfl rfl rfl rfl ?_))
                    intro A' cap' W' hg5 hF5 hr5
                    obtain ⟨c1, f1, S2⟩ := H.out.1.storeS (W' := W') hin (by rw [HRT.out]; exact hg5) hF5 (by rw [HRT.out]; exact hr5)
                    rw [HRT.out] at c1
                    have S3 := Lib.hid S2
                    clear hg5 hF5 hr5 S2 q0
                    have hfr := fst_range (nx := nx) hok.out k (by omega)
                    have hfn : fst nx sz (k + 1) = fst nx sz k + sz k := rfl
                    have hsk := hok.out k hkn
                    obtain ⟨fk, hfk⟩ : ∃ fk : Nat, fst nx sz k = (fk : Int) := ⟨(fst nx sz k).toNat, by omega⟩
                    obtain ⟨sk, hsk2⟩ : ∃ sk : Nat, sz k = (sk : Int) := ⟨(sz k).toNat, by omega⟩
                    rw [hfk, hsk2] at hfn
                    have hj2 := Lib.hid (show job1 nx sz (e i j) = List.range' fk sk by rw [hj1.out, hfk, hsk2, Int.toNat_natCast, Int.toNat_natCast])
                    have p0 : ∀ W2 rows ls, Sr w W2 w.heap.size wo.heap.size n (fst nx sz) rows ls → W2.cell? ⟨w.heap.size, k, none⟩ = some (.int .i64 (fk : Int)) := fun W2 rows ls h => by
                      have := h.first.cell (j := k) (by omega)
                      rw [← hfk]; exact this
                    have p1 : ∀ W2 rows ls, Sr w W2 w.heap.size wo.heap.size n (fst nx sz) rows ls → W2.cell? ⟨w.heap.size, k + 1, none⟩ = some (.int .i64 ((fk + sk : Nat) : Int)) := fun W2 rows ls h => by
                      have := h.first.cell (j := k + 1) (by omega)
                      rw [Int.natCast_add, ← hfn]; exact this
                    have P0 := Lib.hid p0
                    have P1 := Lib.hid p1
                    have hfk2 : (fk : Int) ≤ 1099511628776 := by omega
                    have hsk3 : sk ≤ 20 := by omega
                    clear hfr hfn hsk hfk hsk2 p0 p1
                    go_upto_region 26 with fail
                    go_cut [18] (fun s18 wx => s18 = .int .i64 (fk : Int) ∧ ∃ rows ls, Hid (Sr w wx w.heap.size wo.heap.size n (fst nx sz) rows ls ∧ Done nx sz n m e i ls ∧ Zero n (i + 1) ls ∧ ls i = specsP e i (j + 1) ∧ ls (n + i) = jobsP nx sz e i j))
                    case first =>
                      have q0 := P0.out _ _ _ S3.out
                      go_wp2_with fail
                      go_meet
                      refine ⟨rfl, _, _, Lib.hid ⟨S3.out, H.out.2.1.upd1 hin _, H.out.2.2.1.upd1 hin _, ?_, ?_⟩⟩
                      · rw [upd_same, specsP_succ, hs1.out, H.out.2.2.2.1]
                      · rw [upd_other _ _ (by omega), H.out.2.2.2.2.1]
                    case rest =>
                      clear S3 c1 f1 HF0 HRT H rows ls
                      obtain ⟨rfl, rows, ls, H⟩ := hcut
                      rename World => w8
                      go_wp2_with fail
                      go_loopg [18] sk (fun g s18 w9 => ∃ q : Nat, fk ≤ q ∧ q ≤ fk + sk ∧ g = fk + sk - q ∧ s18 = .int .i64 (q : Int) ∧ ∃ rows ls, Hid (Sr w w9 w.heap.size wo.heap.size n (fst nx sz) rows ls ∧ Done nx sz n m e i ls ∧ Zero n (i + 1) ls ∧ ls i = specsP e i (j + 1) ∧ ls (n + i) = jobsP nx sz e i j ++ List.range' fk (q - fk)))
                      case atStart => exact ⟨fk, by omega, by omega, by omega, rfl, rows, ls, Lib.hid (by rw [Nat.sub_self]; simpa using H.out)⟩
                      case round =>
                        clear H rows ls
                        obtain ⟨q, hq1, hq2, hg3, rfl, rows, ls, H⟩ := hrel
                        have q5 := P1.out _ _ _ H.out.1
                        have k2 : (k : Int) + 1 < (n : Int) + 1 := by omega
                        by_cases hlt : q < fk + sk
                        · have hlt2 : (q : Int) < (fk : Int) + (sk : Int) := by omega
                          obtain ⟨At, ct, hrt⟩ := H.out.1.row (i := n + i) (by omega)
                          have hll : (jobsP nx sz e i j ++ List.range' fk (q - fk)).length ≤ 1000000 := by rw [List.length_append, List.length_range']; omega
                          rw [H.out.2.2.2.2] at hrt
                          obtain ⟨kk, hkk⟩ : ∃ kk, Hid ((jobsP nx sz e i j ++ List.range' fk (q - fk)).length = kk) := ⟨_, Lib.hid rfl⟩
                          rw [hkk.out] at hrt hll
                          have HRT := Lib.hid hrt
                          have q0 : wr.cell? ⟨wo.heap.size + 1, i, none⟩ = some (.slice At kk ct) := by rw [← HRT.out]; exact H.out.1.jobs.cell hin
                          have hF0 := H.out.1.fam.1 (n + i) (by omega)
                          rw [HRT.out] at hF0
                          have HF0 := Lib.hid hF0
                          clear hrt hF0
                          go_wp2_with (first | (at_builtin; refine wpList_frpush HF0.out (k := q) hll (by have := H.out.1.jobs.lt; omega) rfl _ _ rfl rfl rfl rfl ?_))
                          intro A' cap' W' hg5 hF5 hr5
                          obtain ⟨c1, f1, S2⟩ := H.out.1.storeJ (W' := W') hin (by rw [HRT.out]; exact hg5) hF5 (by rw [HRT.out]; exact hr5)
                          rw [HRT.out] at c1
                          have S3 := Lib.hid S2
                          clear hg5 hF5 hr5 S2 q0 q5
                          go_wp2_with fail
                          go_roundg (fk + sk - (q + 1))
                          case measure => omega
                          case rel =>
                            refine ⟨q + 1, by omega, by omega, rfl, by go_num, _, _, Lib.hid ⟨S3.out, H.out.2.1.upd2 hin _, H.out.2.2.1.upd2 hin _, ?_, ?_⟩⟩
                            · rw [upd_other _ _ (by omega), H.out.2.2.2.1]
                            · rw [upd_same, H.out.2.2.2.2, show q + 1 - fk = (q - fk) + 1 by omega, List.range'_1_concat, show fk + (q - fk) = q by omega, List.append_assoc]
                        · have hlt2 : ¬ (q : Int) < (fk : Int) + (sk : Int) := by omega
                          have hqe : q = fk + sk := by omega
                          go_wp2_with fail
                          go_roundg (m i - (j + 1))
                          case measure => omega
                          case rel =>
                            refine ⟨j + 1, by omega, rfl, by go_num, rows, ls, Lib.hid ⟨H.out.1, H.out.2.1, H.out.2.2.1, H.out.2.2.2.1, ?_, hgood.out⟩⟩
                            rw [H.out.2.2.2.2, jobsP_succ, hj2.out, hqe, Nat.add_sub_cancel_left]
              · obtain rfl : j = m i := by omega
                obtain ⟨At, ct, hrt⟩ := H.out.1.row (i := n + i) (by omega)
                have hjl := jobsP_len hok.out e i (m i) H.out.2.2.2.2.2
                have hmi3 := HM.out i hin
                rw [H.out.2.2.2.2.1] at hrt
                obtain ⟨kk, hkk⟩ : ∃ kk, Hid ((jobsP nx sz e i (m i)).length = kk) := ⟨_, Lib.hid rfl⟩
                rw [hkk.out] at hrt hjl
                have HRT := Lib.hid hrt
                have q0 : wr.cell? ⟨wo.heap.size + 1, i, none⟩ = some (.slice At kk ct) := by rw [← HRT.out]; exact H.out.1.jobs.cell hin
                have hF0 := H.out.1.fam.1 (n + i) (by omega)
                rw [HRT.out] at hF0
                have hkl : kk ≤ 1000000 := by omega
                have C := Lib.hid (sort_fr hF0 hkl)
                clear hrt hF0
                go_wp2_with fail
                refine C.out.mono ?_
                rintro x5 w5 ⟨rfl, l', hF5, hp5, hm5, hg5⟩
                have S5 := H.out.1.sorted (i := n + i) (W' := w5) (by omega) (by rw [HRT.out]; exact hg5) (by rw [HRT.out]; exact hF5)
                have HS5 := Lib.hid S5
                have HM5 := Lib.hid hm5
                have C2 := Lib.hid (compact_fr hF5 hkl hp5)
                clear q0 C hF5 hp5 hm5 hg5 S5
                have q0 : w5.cell? ⟨wo.heap.size + 1, i, none⟩ = some (.slice At kk ct) := by rw [← HRT.out]; exact HS5.out.jobs.cell hin
                go_wp2_with fail
                refine C2.out.mono ?_
                rintro x6 w6 ⟨k6, l6, rfl, hk6, hF6, hp6, hm6, hg6⟩
                obtain ⟨c1, f1, S6⟩ := HS5.out.storeJ (W' := w6) hin (by rw [HRT.out]; exact hg6) hF6 (by rw [HRT.out]; exact fun g hg => Or.inl (by rw [own_len At kk k6]; exact hg))
                rw [HRT.out] at c1
                have HS6 := Lib.hid S6
                have HP := Lib.hid (show _ ∧ _ from ⟨hp6, hm6⟩)
                clear q0 C2 hF6 hp6 hm6 hg6 S6
                go_wp2_with fail
                go_roundg (n - (i + 1))
                case measure => omega
                case rel =>
                  refine ⟨i + 1, by omega, rfl, by go_num, _, _, Lib.hid ⟨HS6.out, ((H.out.2.1.upd2 hin _).upd2 hin _).next ?_ ?_ ?_ H.out.2.2.2.2.2, (H.out.2.2.1.upd2 hin _).upd2 hin _⟩⟩
                  · rw [upd_other _ _ (by omega), upd_other _ _ (by omega), H.out.2.2.2.1]
                  · rw [upd_same]; exact HP.out.1
                  · intro y
                    rw [upd_same, HP.out.2, HM5.out, H.out.2.2.2.2.1]
          · obtain rfl : n = i := by omega
            have hcl := Lib.hid (show clean nx n m e from fun k hk j hj => (H.out.2.1 k hk).2.2.2 j hj)
            have hlen : ∀ k, k < n → (ls k).length ≤ 1000 := fun k hk => by
              rw [(H.out.2.1 k hk).1]
              exact Nat.le_trans (specsP_len e k (m k)) (HM.out k hk)
            have C := Lib.hid (cyclic_any (some ⟨wo.heap.size, 0, none⟩) n n _ _ hn hlen wr H.out.1.rowsS)
            have HA : Hid (∀ k, k < n → rowsOf (fun k => (ls k).length) (fun k j => (((ls k).getD j 0 : Nat) : Int)) k = specsL m e k) := Lib.hid fun k hk => by
              unfold specsL
              rw [← (H.out.2.1 k hk).1]
              exact pre_getD (ls k)
            clear hlen
            go_wp2_with fail
            refine C.out.mono ?_
            rintro x9 w9 ⟨o, b, rfl, hrun, hb9⟩
            have HR9 := Lib.hid (show Run n (specsL m e) [] o b from hrun.congr HA.out)
            have S9 := Lib.hid (H.out.1.pass hb9)
            clear C hrun hb9
            cases b with
            | false =>
              go_wp2_with fail
              go_ret2
              exact ⟨S9.out.bel, Or.inr ⟨hna.out, Or.inr ⟨hcl.out, Or.inl ⟨o, HR9.out, rfl⟩⟩⟩⟩
            | true =>
              go_wp2_with fail
              go_ret2
              exact ⟨S9.out.bel, Or.inr ⟨hna.out, Or.inr ⟨hcl.out, Or.inr ⟨o, HR9.out, _, _, _, rfl, S9.out.rowsJ, fun k hk => ⟨(H.out.2.1 k hk).2.1, (H.out.2.1 k hk).2.2.1⟩⟩⟩⟩⟩
end Go.Proofs.Ytecimlbdcldkdaa
