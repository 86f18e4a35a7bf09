/- The walk of deps.Order. -/
import Derived.Test.YtecimlbdcldkdaaFam
import Derived.Test.YtecimlbdcldkdaaOrdP
import Derived.Test.YtecimlbdcldkdaaRow
import Derived.Deep.DeepCutAuto
import Derived.Deep.LoopGhost
namespace Go.Proofs.Ytecimlbdcldkdaa
open Go.RowKit Dep

section
variable {w0 W W' : World} {n : Nat} {lf : Nat → Int} {rows : Nat → Value} {ls : Nat → List Nat}
theorem insert_st (h : St w0 W n lf rows ls) {A : Option Addr} {m cap : Nat} (hrow : rows n = .slice A m cap) (hm : m ≤ 1000000) {at_ : Nat} (hat : at_ ≤ m) (k : Nat) :
    Calls Try.prog 30 #[.slice A m cap, .int .i64 (at_ : Int), .slice (some ⟨W.heap.size, 0, none⟩) 1 1] (W.alloc (.cells #[.int .i64 (k : Int)] 3)) fun e w' =>
      ∃ A' cap', e = .returned (.slice A' (m + 1) cap') ∧ St w0 w' n lf (upd rows n (.slice A' (m + 1) cap')) (upd ls n ((ls n).take at_ ++ k :: (ls n).drop at_)) := by
  have hF0 := h.fam.1 n (by omega)
  have hml : m = (ls n).length := by
    obtain ⟨A', cap', e⟩ := hF0.form
    rw [hrow] at e
    simp only [Value.slice.injEq] at e
    exact e.2.1
  have hF1 : FR (W.alloc (.cells #[.int .i64 (k : Int)] 3)) (w0.heap.size + 2) (rows n) (ls n) := hF0.keep fun g _ hl => Below.heap_alloc W _ g hl
  have hsz : w0.heap.size + 2 ≤ W.heap.size := by have := h.back.lt; omega
  have hg0 : ∀ g, (rows n).ownBlock = some g → g ≠ W.heap.size := fun g hg => by have := (hF0.lt g hg).2; omega
  rw [← hrow]
  refine (insert_any hF1 (by omega) (by omega) (Bk.new W 3 #[.int .i64 (k : Int)]) hg0 (Nat.le_trans hsz (by simp))).mono ?_
  rintro e w' ⟨r, rfl, h1, h2, h3⟩
  obtain ⟨A', cap', er⟩ := h1.form
  rw [ins_len (by omega), ← hml] at er
  subst er
  have g0 : W.grownBy (W.alloc (.cells #[.int .i64 (k : Int)] 3)) (rows n).ownBlock := ⟨rfl, rfl, rfl, by simp, fun b hb _ => Below.heap_alloc W _ b hb⟩
  exact ⟨A', cap', rfl, h.grow (Or.inl rfl) (grown_trans g0 h2) h1 (h3.older (by simp))⟩
theorem search_st (h : St w0 W n lf rows ls) {A : Option Addr} {m cap : Nat} (hrow : rows n = .slice A m cap) (hm : m ≤ 1000000) (k : Nat) (hs : (ls n).Pairwise (· < ·)) :
    Calls Try.prog 29 #[.slice A m cap, .int .i64 (k : Int)] W fun e w' => ∃ b, e = .returned (.tuple #[.int .i64 (((ls n).countP (· < k) : Nat) : Int), .bool b]) ∧ St w0 w' n lf rows ls := by
  have hF0 := h.fam.1 n (by omega)
  have hml : m = (ls n).length := by
    obtain ⟨A', cap', e⟩ := hF0.form
    rw [hrow] at e
    simp only [Value.slice.injEq] at e
    exact e.2.1
  rw [← hrow]
  refine (search_any hF0 (by omega) k hs).mono ?_
  rintro e w' ⟨b, q, rfl, rfl⟩
  exact ⟨b, rfl, h.drewN q⟩
/-- what a row's first cells hold -/
theorem FR.cellAt {w : World} {base : Nat} {A : Option Addr} {m cap : Nat} {l : List Nat} (h : FR w base (.slice A m cap) l) {j : Nat} {x : Nat} (hx : l[j]? = some x) : ∃ g o, A = some ⟨g, o, none⟩ ∧ w.cell? ⟨g, o + j, none⟩ = some (.int .i64 (x : Int)) := by
  rcases h with ⟨_, rfl⟩ | ⟨g, o, cap', cs, e, h1, h2, h3, h4, h5, h6⟩
  · cases hx
  · simp only [Value.slice.injEq] at e
    exact ⟨g, o, e.1, h2.cell (h6 j x hx)⟩
theorem FR.len {w : World} {base : Nat} {A : Option Addr} {m cap : Nat} {l : List Nat} (h : FR w base (.slice A m cap) l) : m = l.length := by
  obtain ⟨A', cap', e⟩ := h.form
  simp only [Value.slice.injEq] at e
  exact e.2.1
/-- s[1:] -/
theorem FR.tail {w : World} {base : Nat} {g o m cap x : Nat} {l : List Nat} (h : FR w base (.slice (some ⟨g, o, none⟩) m cap) (x :: l)) : 0 < cap ∧ FR w base (.slice (some (if cap = 1 then ⟨g, o, none⟩ else ⟨g, o + 1, none⟩)) (m - 1) (cap - 1)) l := by
  rcases h with ⟨_, h⟩ | ⟨g', o', cap', cs, e, h1, h2, h3, h4, h5, h6⟩
  · cases h
  · simp only [Value.slice.injEq, Option.some.injEq, Addr.mk.injEq] at e
    obtain ⟨⟨rfl, rfl, _⟩, rfl, rfl⟩ := e
    simp only [List.length_cons] at h3 ⊢
    refine ⟨by omega, ?_⟩
    by_cases hc : cap = 1
    · subst hc
      obtain rfl : l = [] := List.eq_nil_of_length_eq_zero (by omega)
      exact Or.inr ⟨g, o, 0, cs, by simp, h1, h2, by simp, by omega, h5, fun j y hy => by cases hy⟩
    · refine Or.inr ⟨g, o + 1, cap - 1, cs, by rw [if_neg hc]; simp, h1, h2, by omega, by omega, h5, fun j y hy => ?_⟩
      rw [Nat.add_assoc, Nat.add_comm 1 j]
      exact h6 (j + 1) y (by rw [List.getElem?_cons_succ]; exact hy)
/-- the row i is a part of what it was -/
theorem St.cut (h : St w0 W n lf rows ls) {i : Nat} (hi : i = n ∨ i = n + 1) {r : Value} {l : List Nat} (hF : FR W (w0.heap.size + 2) r l) (hr : r.ownBlock = (rows i).ownBlock) : St w0 W n lf (upd rows i r) (upd ls i l) :=
  h.grow hi (World.grownBy.refl _ _) hF fun g hg => Or.inl (by rw [← hr]; exact hg)
end

/-- n rows of numbers that can be read -/
def RowsN (w : World) (A : Option Addr) (n : Nat) (m : Nat → Nat) (e : Nat → Nat → Int) : Prop :=
  0 < n → ∃ bl off, A = some ⟨bl, off, none⟩ ∧ ∀ i, i < n → ∃ Ai ci, w.cell? ⟨bl, off + i, none⟩ = some (.slice Ai (m i) ci) ∧ NumsAt w Ai (m i) (e i)
theorem RowsIn.nums {w : World} {A : Option Addr} {n : Nat} {m : Nat → Nat} {e : Nat → Nat → Int} (h : RowsIn w A n m e) : RowsN w A n m e := fun hn => by
  obtain ⟨bl, off, h1, h2⟩ := h.2 hn
  exact ⟨bl, off, h1, fun i hi => by
    obtain ⟨Ai, ci, h3, h4⟩ := h2 i hi
    exact ⟨Ai, ci, h3, h4.2.1⟩⟩
theorem NumsAt.below {w w' : World} {A : Option Addr} {n : Nat} {d : Nat → Int} (h : NumsAt w A n d) (hb : Below w.heap.size w w') : NumsAt w' A n d := fun hn => by
  obtain ⟨g, o, h1, h2⟩ := h hn
  exact ⟨g, o, h1, fun j hj => keep_below (h2 j hj) hb⟩
theorem RowsN.below {w w' : World} {A : Option Addr} {n : Nat} {m : Nat → Nat} {e : Nat → Nat → Int} (h : RowsN w A n m e) (hb : Below w.heap.size w w') : RowsN w' A n m e := fun hn => by
  obtain ⟨bl, off, h1, h2⟩ := h hn
  exact ⟨bl, off, h1, fun i hi => by
    obtain ⟨Ai, ci, h3, h4⟩ := h2 i hi
    exact ⟨Ai, ci, keep_below h3 hb, h4.below hb⟩⟩

/-- what deps.Order tells: the places in their order, in a row of its own; or that there is none -/
def OrdSaid (n : Nat) (a : Nat → List Int) (w : World) (x : Ending) (w' : World) : Prop :=
  (∃ r o, x = .returned (.tuple #[r, .bool true]) ∧ Run n a [] o true ∧ FR w' w.heap.size r o ∧ Below w.heap.size w w') ∨ (∃ o, x = .returned (.tuple #[.slice none 0 0, .bool false]) ∧ Run n a [] o false ∧ Below w.heap.size w w')

set_option maxRecDepth 100000 in
set_option maxHeartbeats 8000000 in
theorem order_any (A0 : Option Addr) (n c : Nat) (m : Nat → Nat) (e : Nat → Nat → Int) (hn : n ≤ 1000) (hm : ∀ i, i < n → m i ≤ 1000) (w : World) (hrow : RowsN w A0 n m e) :
    Calls Try.prog 12 #[.slice A0 n c] w (OrdSaid n (rowsOf m e) w) := by
  have M1 := make_ints n (by omega)
  have M2 := make_intss n (by omega)
  have HROW := Lib.hid hrow
  have HM := Lib.hid hm
  have hnn : (n : Int) ≤ 1000 := by omega
  clear hrow hm
  go_enter Try.func12, Try.ntmps12
  go_wp2_with fail
  go_loopg [27] n (fun g s27 wr => ∃ i : Nat, i ≤ n ∧ g = n - i ∧ s27 = .int .i64 i ∧ ∃ rows, Hid (St w wr n (lfA n m e i 0) rows (lsA n m e i 0) ∧ rows n = .slice none 0 0 ∧ rows (n + 1) = .slice none 0 0))
  case atStart => exact ⟨0, by omega, by omega, rfl, _, Lib.hid ⟨St.start.congr (fun k _ => (lfA_start k).symm) (fun _ _ => rfl) (fun k _ => (lsA_start k).symm), rfl, rfl⟩⟩
  case round =>
    obtain ⟨i, hi, hg, rfl, rows, H⟩ := hrel
    by_cases hin : i < n
    · obtain ⟨bl, off, rfl, hrows⟩ := HROW.out (by omega)
      obtain ⟨Ai, ci, hcell, hnums⟩ := hrows i hin
      have r0 : wr.cell? ⟨bl, off + i, none⟩ = some (.slice Ai (m i) ci) := keep_below hcell H.out.1.bel
      have HN := Lib.hid hnums
      have hmi : ((m i : Nat) : Int) ≤ 1000 := by have := HM.out i hin; omega
      have i0 : (0 : Int) ≤ (i : Int) := by omega
      have i1 : (i : Int) < (n : Int) := by omega
      clear hcell hrows hnums
      go_wp2_with fail
      go_loopg [34] (m i) (fun g s34 w2 => ∃ j : Nat, j ≤ m i ∧ g = m i - j ∧ s34 = .int .i64 j ∧ ∃ rows, Hid (St w w2 n (lfA n m e i j) rows (lsA n m e i j) ∧ rows n = .slice none 0 0 ∧ rows (n + 1) = .slice none 0 0))
      case atStart => exact ⟨0, by omega, by omega, rfl, rows, H⟩
      case round =>
        clear H r0
        obtain ⟨j, hj, hg2, rfl, rows, H⟩ := hrel
        by_cases hjm : j < m i
        · obtain ⟨g1, o1, rfl, hc⟩ := HN.out (by omega)
          have r1 : wr.cell? ⟨g1, o1 + j, none⟩ = some (.int .i64 (e i j)) := keep_below (hc j hjm) H.out.1.bel
          clear hc
          obtain ⟨x, hx⟩ : ∃ x, Hid (e i j = x) := ⟨_, Lib.hid rfl⟩
          rw [hx.out] at r1
          have j0 : (0 : Int) ≤ (j : Int) := by omega
          have j1 : (j : Int) < ((m i : Nat) : Int) := by omega
          by_cases hr : 0 ≤ x ∧ x < (n : Int)
          · obtain ⟨t, rfl⟩ := Int.eq_ofNat_of_zero_le hr.1
            have ht : t < n := by omega
            have t0 : (0 : Int) ≤ (t : Int) := hr.1
            have t1 : (t : Int) < (n : Int) := hr.2
            clear hr
            have q0 : wr.cell? ⟨w.heap.size, i, none⟩ = some (.int .i64 (lfA n m e i j i)) := H.out.1.left.cell hin
            have q1 : wr.frozen? ⟨w.heap.size, i, none⟩ = false := H.out.1.left.free i
            have hb := lfA_range (n := n) (e := e) HM.out hin hj i
            obtain ⟨z, hz⟩ : ∃ z, Hid (lfA n m e i j i = z) := ⟨_, Lib.hid rfl⟩
            rw [hz.out] at q0 hb
            go_upto_region 10 with fail
            go_cut [] (fun wx => Hid (St w wx n (upd (lfA n m e i j) i (z + 1)) rows (lsA n m e i j)))
            case first =>
              go_wp2_with fail
              go_meet
              exact Lib.hid (H.out.1.count hin (z + 1))
            case rest =>
              clear q0 q1 r1
              have hlen := lsA_len (e := e) hn HM.out hin hj t
              have HF := H.out.1.fam.1 t (by omega)
              obtain ⟨At, ct, hrt⟩ := HF.form
              obtain ⟨k, hk⟩ : ∃ k, Hid ((lsA n m e i j t).length = k) := ⟨_, Lib.hid rfl⟩
              rw [hk.out] at hrt hlen
              have HRT := Lib.hid hrt
              have q0 : wc.cell? ⟨w.heap.size + 1, t, none⟩ = some (.slice At k ct) := by rw [← HRT.out]; exact hcut.out.back.cell ht
              clear hrt HF
              go_wp2_with (first | (at_builtin; refine wpList_stpush hcut.out (i := t) (k := i) (by omega) HRT.out hlen rfl _ _ rfl rfl rfl rfl ?_))
              intro A' cap' W' hg hF hr
              obtain ⟨c1, f1, S2⟩ := hcut.out.store ht hg hF hr
              rw [HRT.out] at c1
              have S3 := Lib.hid S2
              clear hg hF hr S2
              go_wp2_with fail
              go_roundg (m i - (j + 1))
              case measure => omega
              case rel =>
                refine ⟨j + 1, by omega, rfl, by go_num, upd rows t (.slice A' (k + 1) cap'), Lib.hid ⟨S3.out.congr (fun q _ => ?_) (fun _ _ => rfl) (fun q _ => ?_), ?_, ?_⟩⟩
                · rw [← hz.out]; exact lfA_in ht hx.out q
                · exact lsA_in ht hx.out q
                · rw [upd_other _ _ (by omega)]; exact H.out.2.1
                · rw [upd_other _ _ (by omega)]; exact H.out.2.2
          · have HR := Lib.hid (show ¬ (0 ≤ e i j ∧ e i j < (n : Int)) by rw [hx.out]; exact hr)
            by_cases hx0 : 0 ≤ x
            · have hx1 : ¬ x < (n : Int) := by omega
              clear hr
              go_wp2_with fail
              go_roundg (m i - (j + 1))
              case measure => omega
              case rel => exact ⟨j + 1, by omega, rfl, by go_num, rows, Lib.hid ⟨H.out.1.congr (fun q _ => lfA_out HR.out q) (fun _ _ => rfl) (fun q _ => lsA_out HR.out q), H.out.2⟩⟩
            · clear hr
              go_wp2_with fail
              go_roundg (m i - (j + 1))
              case measure => omega
              case rel => exact ⟨j + 1, by omega, rfl, by go_num, rows, Lib.hid ⟨H.out.1.congr (fun q _ => lfA_out HR.out q) (fun _ _ => rfl) (fun q _ => lsA_out HR.out q), H.out.2⟩⟩
        · obtain rfl : j = m i := by omega
          go_wp2_with fail
          go_roundg (n - (i + 1))
          case measure => omega
          case rel => exact ⟨i + 1, by omega, rfl, by go_num, rows, Lib.hid ⟨H.out.1.congr (fun q _ => lfA_next q) (fun _ _ => rfl) (fun q _ => lsA_next q), H.out.2⟩⟩
    · obtain rfl : n = i := by omega
      obtain ⟨lf, hlf⟩ : ∃ lf : Nat → Int, Hid (∀ k, k < n → lf k = wt n (rowsOf m e) [] k) := ⟨_, Lib.hid fun k _ => rfl⟩
      have H2 : Hid (St w wr n lf rows (lsC n (rowsOf m e) (frA n (rowsOf m e) 0) []) ∧ rows n = .slice none 0 0 ∧ rows (n + 1) = .slice none 0 0) := Lib.hid ⟨H.out.1.congr (fun k hk => (lfA_end k hk).trans (hlf.out k hk).symm) (fun _ _ => rfl) (fun k _ => lsA_end k), H.out.2⟩
      clear H
      go_wp2_with fail
      go_loopg [10, 66] n (fun g s10 s66 w2 => ∃ i : Nat, i ≤ n ∧ g = n - i ∧ s66 = .int .i64 i ∧ ∃ A fn cap rows, s10 = .slice A fn cap ∧ Hid (St w w2 n lf rows (lsC n (rowsOf m e) (frA n (rowsOf m e) i) []) ∧ rows n = .slice A fn cap ∧ rows (n + 1) = .slice none 0 0))
      case atStart => exact ⟨0, by omega, by omega, rfl, none, 0, 0, rows, rfl, H2⟩
      case round =>
        clear H2
        obtain ⟨i, hi, hg, rfl, A, fn, cap, rows, rfl, H⟩ := hrel
        by_cases hin : i < n
        · have q0 : wr.cell? ⟨w.heap.size, i, none⟩ = some (.int .i64 (lf i)) := H.out.1.left.cell hin
          obtain ⟨z, hz⟩ : ∃ z, Hid (lf i = z) := ⟨_, Lib.hid rfl⟩
          rw [hz.out] at q0
          have hfn : fn ≤ 1000000 := by
            have h := H.out.1.fam.1 n (by omega)
            rw [H.out.2.1, lsC_free] at h
            have := h.len
            have := frA_len n (rowsOf m e) i
            omega
          have i0 : (0 : Int) ≤ (i : Int) := by omega
          have i1 : (i : Int) < (n : Int) := by omega
          by_cases hz0 : z = 0
          · have hw : Hid (wt n (rowsOf m e) [] i = 0) := Lib.hid (by have := hlf.out i hin; rw [hz.out, hz0] at this; omega)
            have hz1 : (z == 0) = true := by simp [hz0]
            clear hz0
            go_wp2_with (first | (at_builtin; refine wpList_stpush H.out.1 (i := n) (k := i) (by omega) H.out.2.1 hfn rfl _ _ rfl rfl rfl rfl ?_))
            intro A' cap' W' hg hF hr
            have S2 := Lib.hid (H.out.1.grow (Or.inl rfl) hg hF hr)
            clear hg hF hr
            go_wp2_with fail
            go_roundg (n - (i + 1))
            case measure => omega
            case rel =>
              refine ⟨i + 1, by omega, rfl, by go_num, A', fn + 1, cap', _, rfl, Lib.hid ⟨S2.out.congr (fun _ _ => rfl) (fun _ _ => rfl) (fun k _ => ?_), upd_same _ _ _, (upd_other _ _ (by omega)).trans H.out.2.2⟩⟩
              rw [frA_yes hw.out, lsC_free]
              exact lsC_setFree k
          · have hw : Hid (wt n (rowsOf m e) [] i ≠ 0) := Lib.hid (by have := hlf.out i hin; rw [hz.out] at this; omega)
            have hz1 : (z == 0) = false := by simp [hz0]
            clear hz0
            go_wp2_with fail
            go_roundg (n - (i + 1))
            case measure => omega
            case rel => exact ⟨i + 1, by omega, rfl, by go_num, A, fn, cap, rows, rfl, Lib.hid ⟨by rw [frA_no hw.out]; exact H.out.1, H.out.2⟩⟩
        · obtain rfl : n = i := by omega
          have HI := Lib.hid (inv_start hlf.out)
          go_wp2_with fail
          go_loopg [10, 11] n (fun g s10 s11 w2 => ∃ A fn cap A2 on cap2 o fr lf rows, s10 = .slice A fn cap ∧ s11 = .slice A2 on cap2 ∧ on ≤ n ∧ g = n - on ∧
            Hid (St w w2 n lf rows (lsC n (rowsOf m e) fr o) ∧ rows n = .slice A fn cap ∧ rows (n + 1) = .slice A2 on cap2 ∧ Inv n (rowsOf m e) o fr lf ∧ ∀ r f, Run n (rowsOf m e) o r f → Run n (rowsOf m e) [] r f))
          case atStart => exact ⟨A, fn, cap, none, 0, 0, [], _, lf, rows, rfl, rfl, by omega, by omega, Lib.hid ⟨H.out.1, H.out.2.1, H.out.2.2, HI.out, fun r f h => h⟩⟩
          case round =>
            clear H HI hlf
            obtain ⟨A, fn, cap, A2, on, cap2, o, fr, lf, rows, rfl, rfl, hon, hg, H⟩ := hrel
            have hfl : Hid (fn = fr.length) := Lib.hid (by
              have h := H.out.1.fam.1 n (by omega)
              rw [H.out.2.1, lsC_free] at h
              exact h.len)
            have hol : Hid (on = o.length) := Lib.hid (by
              have h := H.out.1.fam.1 (n + 1) (by omega)
              rw [H.out.2.2.1, lsC_out] at h
              exact h.len)
            cases fr with
            | nil =>
              obtain rfl : fn = 0 := hfl.out
              by_cases hlt : on < n
              · have hlt' : (on : Int) < (n : Int) := by omega
                go_wp2_with fail
                go_ret2
                exact Or.inr ⟨o, rfl, H.out.2.2.2.2 _ _ (Run.stuck o (by rw [← hol.out]; exact hlt) H.out.2.2.2.1.best), H.out.1.bel⟩
              · have hlt' : ¬ (on : Int) < (n : Int) := by omega
                go_wp2_with fail
                go_ret2
                have hF := H.out.1.fam.1 (n + 1) (by omega)
                rw [H.out.2.2.1, lsC_out] at hF
                exact Or.inl ⟨_, o, rfl, H.out.2.2.2.2 _ _ (Run.full o (by rw [← hol.out]; omega)), hF.mono (by omega), H.out.1.bel⟩
            | cons i fr =>
              have hfn : Hid (fn = fr.length + 1) := Lib.hid (by rw [hfl.out]; simp)
              have hfl2 := H.out.2.2.2.1.frlen
              have hin : i < n := ((H.out.2.2.2.1.fr i).1 List.mem_cons_self).1
              have hol2 := H.out.2.2.2.1.lt_n
              rw [← hol.out] at hol2
              obtain ⟨fk, hfk⟩ : ∃ fk, fn = fk + 1 := ⟨fn - 1, by have := hfn.out; omega⟩
              subst hfk
              have f0 : (0 : Int) < (fk : Int) + 1 := by omega
              have hF := H.out.1.fam.1 n (by omega)
              rw [H.out.2.1, lsC_free] at hF
              obtain ⟨g, ow, rfl, hc⟩ := hF.cellAt (j := 0) rfl
              rw [Nat.add_zero] at hc
              obtain ⟨hcap, hF2⟩ := hF.tail
              have hfc : (fk : Int) ≤ 1000 := by
                simp only [List.length_cons] at hfl2
                have := hfn.out
                omega
              have hHT := H.out.1.cut (Or.inl rfl) hF2 (by rw [H.out.2.1]; simp only [Value.ownBlock]; split <;> rfl)
              have HT := Lib.hid (hHT.congr (fun _ _ => rfl) (fun _ _ => rfl) (fun k _ => lsC_setFree k))
              clear hF hF2 hfl2 hHT
              go_upto_region 23 with fail
              go_cut [10] (fun s10 wx => ∃ A3 cap3, s10 = .slice A3 fk cap3 ∧ Hid (St w wx n lf (upd rows n (.slice A3 fk cap3)) (lsC n (rowsOf m e) fr o)))
              case first =>
                have h := HT.out
                by_cases hc1 : cap = 1
                · subst hc1
                  rw [if_pos rfl] at h
                  have HH := Lib.hid h
                  clear h
                  go_wp2_with fail
                  go_meet
                  exact ⟨_, _, rfl, HH⟩
                · rw [if_neg hc1] at h
                  have HH := Lib.hid h
                  clear h
                  go_wp2_with fail
                  go_meet
                  exact ⟨_, _, rfl, HH⟩
              case rest =>
                clear hc HT
                obtain ⟨A3, cap3, rfl, HC⟩ := hcut
                have hr2 := Lib.hid ((upd_other rows (Value.slice A3 fk cap3) (show n + 1 ≠ n by omega)).trans H.out.2.2.1)
                have honl : on ≤ 1000000 := by omega
                go_wp2_with (first | (at_builtin; refine wpList_stpush HC.out (i := n + 1) (k := i) (by omega) hr2.out honl rfl _ _ rfl rfl rfl rfl ?_))
                intro A4 cap4 W4 hg4 hF4 hr4
                have S4 := (HC.out.grow (Or.inr rfl) hg4 hF4 hr4).congr (fun _ _ => rfl) (fun _ _ => rfl) (ls' := lsC n (rowsOf m e) fr (o ++ [i])) (fun k hk => by rw [lsC_out]; exact lsC_setOut k hk)
                clear hg4 hF4 hr4
                obtain ⟨rw4, hrw⟩ : ∃ r : Nat → Value, Hid (upd (upd rows n (.slice A3 fk cap3)) (n + 1) (.slice A4 (on + 1) cap4) = r) := ⟨_, Lib.hid rfl⟩
                have hq1 := Lib.hid (show rw4 n = .slice A3 fk cap3 by rw [← hrw.out, upd_other _ _ (by omega), upd_same])
                have hq2 := Lib.hid (show rw4 (n + 1) = .slice A4 (on + 1) cap4 by rw [← hrw.out, upd_same])
                rw [hrw.out] at S4
                obtain ⟨Ai, ci, hri⟩ := (S4.fam.1 i (by omega)).form
                rw [lsC_row hin] at hri
                obtain ⟨mi, hmi⟩ : ∃ mi, Hid ((bk n (rowsOf m e) i n).length = mi) := ⟨_, Lib.hid rfl⟩
                rw [hmi.out] at hri
                have hbl := bk_len (e := e) HM.out i n (Nat.le_refl _)
                rw [hmi.out] at hbl
                have hmi2 : (mi : Int) ≤ 1000000 := by omega
                clear hbl
                have HRI := Lib.hid hri
                have c4 : W4.cell? ⟨w.heap.size + 1, i, none⟩ = some (.slice Ai mi ci) := by rw [← hri]; exact S4.back.cell hin
                have HS4 := Lib.hid S4
                have i0 : (0 : Int) ≤ (i : Int) := by omega
                have i1 : (i : Int) < (n : Int) := by omega
                clear hri S4 hrw
                go_wp2_with fail
                go_loopg [10, 95] mi (fun g s10 s95 w2 => ∃ j : Nat, j ≤ mi ∧ g = mi - j ∧ s95 = .int .i64 j ∧ ∃ A fk cap fr lf rows, s10 = .slice A fk cap ∧
                  Hid (St w w2 n lf rows (lsC n (rowsOf m e) fr (o ++ [i])) ∧ rows n = .slice A fk cap ∧ rows (n + 1) = .slice A4 (on + 1) cap4 ∧ rows i = .slice Ai mi ci ∧ Mid n (rowsOf m e) o i ((bk n (rowsOf m e) i n).take j) fr lf))
                case atStart => exact ⟨0, by omega, by omega, rfl, A3, fk, cap3, fr, lf, rw4, rfl, Lib.hid ⟨HS4.out, hq1.out, hq2.out, HRI.out, H.out.2.2.2.1.mid⟩⟩
                case round =>
                  clear HS4 c4 hq1 hq2 HRI HC hr2
                  obtain ⟨j, hj, hg5, rfl, A5, f5, cap5, fr5, lf5, rows5, rfl, H5⟩ := hrel
                  by_cases hjm : j < mi
                  · obtain ⟨k, hk⟩ : ∃ k, (bk n (rowsOf m e) i n)[j]? = some k := ⟨_, List.getElem?_eq_getElem (by rw [hmi.out]; exact hjm)⟩
                    have hsp : bk n (rowsOf m e) i n = (bk n (rowsOf m e) i n).take j ++ k :: (bk n (rowsOf m e) i n).drop (j + 1) := by
                      have hlt : j < (bk n (rowsOf m e) i n).length := by rw [hmi.out]; exact hjm
                      rw [List.getElem?_eq_getElem hlt] at hk
                      simp only [Option.some.injEq] at hk
                      rw [← hk, List.getElem_cons_drop, List.take_append_drop]
                    have hFi := H5.out.1.fam.1 i (by omega)
                    rw [H5.out.2.2.2.1, lsC_row hin] at hFi
                    obtain ⟨gi, oi, rfl, ck⟩ := hFi.cellAt hk
                    obtain ⟨hkn, hstep⟩ := H5.out.2.2.2.2.step hsp
                    have hbnd := H5.out.2.2.2.2.left hsp
                    have hfree := H5.out.2.2.2.2.free hsp
                    have htk : (bk n (rowsOf m e) i n).take j ++ [k] = (bk n (rowsOf m e) i n).take (j + 1) := by rw [List.take_add_one, hk]; rfl
                    rw [htk] at hstep
                    have HST := Lib.hid (show _ ∧ _ from ⟨hstep, hfree⟩)
                    have c0 : wr.cell? ⟨w.heap.size, k, none⟩ = some (.int .i64 (lf5 k)) := H5.out.1.left.cell hkn
                    have c1 : wr.frozen? ⟨w.heap.size, k, none⟩ = false := H5.out.1.left.free k
                    obtain ⟨z, hz⟩ : ∃ z, Hid (lf5 k = z) := ⟨_, Lib.hid rfl⟩
                    have hal : (rowsOf m e k).length ≤ 1000 := by unfold rowsOf; rw [pre_len]; exact HM.out k hkn
                    rw [hz.out] at c0 hbnd
                    have z1 : 1 ≤ z := hbnd.1
                    have z2 : z ≤ 1000 := by omega
                    have k0 : (0 : Int) ≤ (k : Int) := by omega
                    have k1 : (k : Int) < (n : Int) := by omega
                    have j0 : (0 : Int) ≤ (j : Int) := by omega
                    have j1 : (j : Int) < (mi : Int) := by omega
                    clear hbnd hal htk hstep hfree hFi hsp hk
                    go_upto_region 28 with fail
                    go_cut [] (fun wx => ∃ y, Hid (z - 1 = y) ∧ Hid (St w wx n (upd lf5 k y) rows5 (lsC n (rowsOf m e) fr5 (o ++ [i]))))
                    case first =>
                      have HH := Lib.hid (H5.out.1.count hkn (z - 1))
                      go_wp2_with fail
                      go_meet
                      exact ⟨_, Lib.hid rfl, HH⟩
                    case rest =>
                      clear c0 c1 ck
                      obtain ⟨y, hy, HS⟩ := hcut
                      have c0 : wc.cell? ⟨w.heap.size, k, none⟩ = some (.int .i64 y) := by
                        have h := HS.out.left.cell hkn
                        rw [upd_same] at h
                        exact h
                      have hf5 : f5 ≤ 1000000 := by
                        have h := H5.out.1.fam.1 n (by omega)
                        rw [H5.out.2.1, lsC_free] at h
                        have := h.len
                        have := H5.out.2.2.2.2.frlen
                        omega
                      by_cases hy0 : y = 0
                      · have hy1 : (y == 0) = true := by simp [hy0]
                        have HY := Lib.hid (show lf5 k - 1 = 0 by rw [hz.out, hy.out]; exact hy0)
                        clear hy0
                        go_wp2_with fail
                        refine (search_st HS.out H5.out.2.1 hf5 k (by rw [lsC_free]; exact H5.out.2.2.2.2.rise)).mono ?_
                        rintro x5 w5 ⟨b5, rfl, S5⟩
                        rw [lsC_free]
                        obtain ⟨q, hq⟩ : ∃ q, Hid (fr5.countP (· < k) = q) := ⟨_, Lib.hid rfl⟩
                        rw [hq.out]
                        have hqf : q ≤ f5 := by
                          have h := H5.out.1.fam.1 n (by omega)
                          rw [H5.out.2.1, lsC_free] at h
                          rw [h.len, ← hq.out]
                          exact List.countP_le_length
                        have HS5 := Lib.hid S5
                        clear S5 c0
                        go_wp2_with fail
                        refine (insert_st HS5.out H5.out.2.1 hf5 hqf k).mono ?_
                        rintro x6 w6 ⟨A6, cap6, rfl, S6⟩
                        have HS6 := Lib.hid S6
                        clear S6
                        go_wp2_with fail
                        go_roundg (mi - (j + 1))
                        case measure => omega
                        case rel =>
                          have hst := HST.out.1
                          rw [if_pos HY.out] at hst
                          refine ⟨j + 1, by omega, rfl, by go_num, A6, f5 + 1, cap6, ins k fr5, _, _, rfl, Lib.hid ⟨HS6.out.congr (fun x _ => ?_) (fun _ _ => rfl) (fun x _ => ?_), upd_same _ _ _, (upd_other _ _ (by omega)).trans H5.out.2.2.1, (upd_other _ _ (by omega)).trans H5.out.2.2.2.1, hst⟩⟩
                          · show (if x = k then y else lf5 x) = (if x = k then lf5 k - 1 else lf5 x)
                            rw [hz.out, hy.out]
                          · have hi := ins_at (k := k) H5.out.2.2.2.2.rise
                            rw [hq.out] at hi
                            rw [lsC_free, ← hi]
                            exact lsC_setFree x
                      · have hy1 : (y == 0) = false := by simp [hy0]
                        have HY := Lib.hid (show ¬ lf5 k - 1 = 0 by rw [hz.out, hy.out]; exact hy0)
                        clear hy0
                        go_wp2_with fail
                        go_roundg (mi - (j + 1))
                        case measure => omega
                        case rel =>
                          have hst := HST.out.1
                          rw [if_neg HY.out] at hst
                          refine ⟨j + 1, by omega, rfl, by go_num, A5, f5, cap5, fr5, _, rows5, rfl, Lib.hid ⟨HS.out.congr (fun x _ => ?_) (fun _ _ => rfl) (fun _ _ => rfl), H5.out.2.1, H5.out.2.2.1, H5.out.2.2.2.1, hst⟩⟩
                          show (if x = k then y else lf5 x) = (if x = k then lf5 k - 1 else lf5 x)
                          rw [hz.out, hy.out]
                  · obtain rfl : mi = j := by omega
                    go_wp2_with fail
                    go_roundg (n - (on + 1))
                    case measure => omega
                    case rel =>
                      have hmid := H5.out.2.2.2.2
                      rw [← hmi.out, List.take_length] at hmid
                      exact ⟨A5, f5, cap5, A4, on + 1, cap4, o ++ [i], fr5, lf5, rows5, rfl, by simp, by omega, rfl, Lib.hid ⟨H5.out.1, H5.out.2.1, H5.out.2.2.1, hmid.inv, fun r f h => H.out.2.2.2.2 r f (Run.more o i r f (by rw [← hol.out]; exact hol2) H.out.2.2.2.1.best h)⟩⟩
end Go.Proofs.Ytecimlbdcldkdaa
