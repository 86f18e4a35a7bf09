/- The walk of the document's Resolve. -/
import Derived.Test.YtecimlbdcldkdaaFs
import Derived.StillTailTactics
namespace Go.Proofs.Ytecimlbdcldkdaa
open Go.RowKit Dep

theorem nodup_sub_len : ∀ {l l2 : List Nat}, l.Nodup → (∀ x ∈ l, x ∈ l2) → l.length ≤ l2.length
  | [], _, _, _ => by simp
  | x :: l, l2, hn, h => by
    rw [List.nodup_cons] at hn
    have hx := h x (by simp)
    have h1 := nodup_sub_len (l2 := l2.erase x) hn.2 fun y hy => (List.mem_erase_of_ne (fun e => hn.1 (by rw [← e]; exact hy))).2 (h y (by simp [hy]))
    rw [List.length_erase_of_mem hx] at h1
    have : 0 < l2.length := List.length_pos_of_mem hx
    simp only [List.length_cons]
    omega
theorem rise_len {l l2 : List Nat} (h : l.Pairwise (· < ·)) (hm : ∀ x, x ∈ l ↔ x ∈ l2) : l.length ≤ l2.length := nodup_sub_len (h.imp fun h => by omega) fun x hx => (hm x).1 hx
def fstL (nx : Int) (sz : Nat → Int) (i : Nat) : List Nat := (List.range (i + 1)).map fun k => (fst nx sz k).toNat
theorem fstL_get (nx : Int) (sz : Nat → Int) {i k : Nat} (h : k ≤ i) : (fstL nx sz i)[k]? = some (fst nx sz k).toNat := by
  unfold fstL
  rw [List.getElem?_map, List.getElem?_range (by omega)]
  rfl
theorem fstL_succ (nx : Int) (sz : Nat → Int) (i : Nat) : fstL nx sz (i + 1) = fstL nx sz i ++ [(fst nx sz (i + 1)).toNat] := by
  unfold fstL
  rw [List.range_succ, List.map_append]
  rfl
theorem fstL_len (nx : Int) (sz : Nat → Int) (i : Nat) : (fstL nx sz i).length = i + 1 := by unfold fstL; simp

theorem wpList_frpushI {W : World} {base : Nat} {l : List Nat} {A : Option Addr} {m cap : Nat} (h : FR W base (.slice A m cap) l) {z : Int} {k : Nat} (hz : z = (k : Int)) (hl : m ≤ 1000000) (hb : base ≤ W.heap.size)
    {ops : Array Oper} {rest : List Oper} {o : Oper} {a : Act} {Q : Exit → Act → World → Prop} (hgd : o.guard = none) (s x : Operand)
    (ho : o.op = .call { callee := .builtin .append, args := #[s, x], argTypes := #[25, 25] }) (hty : o.type = 25)
    (hs : a.eval s = .slice A m cap) (hx : a.eval x = .slice (some ⟨W.heap.size, 0, none⟩) 1 1)
    (hk : ∀ A' cap' W', W.grownBy W' (Value.slice A m cap).ownBlock → FR W' base (.slice A' (m + 1) cap') (l ++ [k]) → Fresh W (.slice A m cap) (.slice A' (m + 1) cap') →
      wpList Try.prog ops Q rest (a.put o.dst (.slice A' (m + 1) cap')) W') :
    wpList Try.prog ops Q (o :: rest) a (W.alloc (.cells #[.int .i64 z] 3)) := by
  subst hz
  exact wpList_frpush h hl hb hgd s x ho hty hs hx hk
theorem FR.grownS {w w' : World} {b b' : Nat} {v v' : Value} {l : List Nat} {l' : List Value} (h : FR w b v l) (h' : FS w b' v' l') (hg : w.grownBy w' v'.ownBlock) : FR w' b v l :=
  h.keep fun g hg1 hl => hg.block g hl fun c => h.apart h' g hg1 c.symm
theorem FS.grownS {w w' : World} {b : Nat} {v : Value} {l : List Value} {row : Option Nat} (h : FS w b v l) (ha : ∀ g, v.ownBlock = some g → row ≠ some g) (hg : w.grownBy w' row) : FS w' b v l :=
  h.keep fun g hg1 hl => hg.block g hl fun c => ha g hg1 c.symm
theorem apart_fresh {w : World} {v v' r : Value} (h : ∀ g, v.ownBlock = some g → v'.ownBlock ≠ some g) (hr : Fresh w v r) (hl : ∀ g, v'.ownBlock = some g → g < w.heap.size) : ∀ g, r.ownBlock = some g → v'.ownBlock ≠ some g := fun g hg c => by
  rcases hr g hg with e | e
  · exact h g e c
  · have := hl g c; omega
theorem apart_fresh2 {w : World} {v v' r : Value} (h : ∀ g, v.ownBlock = some g → v'.ownBlock ≠ some g) (hr : Fresh w v' r) (hl : ∀ g, v.ownBlock = some g → g < w.heap.size) : ∀ g, v.ownBlock = some g → r.ownBlock ≠ some g := fun g hg c => by
  rcases hr g c with e | e
  · exact h g hg e
  · have := hl g hg; omega
theorem step_append_eq {P : Program} {ops : Array Oper} {o : Oper} {a : Act} {w w' : World} {Q : Exit → Act → World → Prop} {K : Act → World → Prop} {E : Prop} {t tx ty : TypeId} {v1 v2 r : Value}
    (hrun : (Builtin.append_ #[t, tx] ty #[v1, v2]).run P w = .ok r w') (s x : Operand) (hgd : o.guard = none) (ho : o.op = Op.call { callee := Callee.builtin Builtin.append, args := #[s, x], argTypes := #[t, tx] }) (hty : o.type = ty)
    (hs : a.eval s = v1) (hx : a.eval x = v2) (h : K (a.put o.dst r) w') : if Region.wanted o (yielded ops a.tmps) = true then Oper.wp P o a w K Q else E := by
  subst hs hx hty
  have hw : Region.wanted o (yielded ops a.tmps) = true := by simp [Region.wanted, hgd]
  rw [if_pos hw]
  unfold Oper.wp
  simp [execOp, ho, resolve, invoke, builtin, hrun, Result.andThen]
  exact h
theorem FR.heap {w w' : World} {base : Nat} {v : Value} {l : List Nat} (h : FR w base v l) (hh : w'.heap = w.heap) : FR w' base v l := h.keep fun g _ _ => by rw [hh]

set_option maxRecDepth 100000 in
set_option maxHeartbeats 16000000 in
theorem rresolve_any (nx : Int) (As : Option Addr) (ns cs : Nat) (sz : Nat → Int) (hns : ns ≤ 1000) (A0 : Option Addr) (n c : Nat) (m : Nat → Nat) (e : Nat → Nat → Int) (hn : n ≤ 1000) (hm : ∀ i, i < n → m i ≤ 1000) (w : World) (hsz : NumsAt w As ns sz) (hrow : RowsN w A0 n m e) :
    Calls Try.prog 18 #[.int .i64 nx, .slice As ns cs, .slice A0 n c] w (ResSaid nx ns sz n m e w) := by
  have HROW := Lib.hid hrow
  have HSZ := Lib.hid hsz
  have HM := Lib.hid hm
  clear hrow hsz hm
  have hnn : (n : Int) ≤ 1000 := by omega
  have hnn2 : (ns : Int) ≤ 1000 := by omega
  go_enter Try.func18, Try.ntmps18
  by_cases a1 : nx < 1
  · have HA := Lib.hid (show argBad nx ns sz n from Or.inl a1)
    go_wp2_with fail
    go_ret2
    exact ⟨Below.refl _ _, Or.inl ⟨HA.out, rfl⟩⟩
  by_cases a2 : 1099511627776 < nx
  · have HA := Lib.hid (show argBad nx ns sz n from Or.inr (Or.inl a2))
    go_wp2_with fail
    go_ret2
    exact ⟨Below.refl _ _, Or.inl ⟨HA.out, rfl⟩⟩
  by_cases a3 : (8 : Int) < (ns : Int)
  · have HA := Lib.hid (show argBad nx ns sz n from Or.inr (Or.inr (Or.inl (by omega))))
    go_wp2_with fail
    go_ret2
    exact ⟨Below.refl _ _, Or.inl ⟨HA.out, rfl⟩⟩
  by_cases a4 : n = ns
  case neg =>
    have HA := Lib.hid (show argBad nx ns sz n from Or.inr (Or.inr (Or.inr (Or.inl a4))))
    have a5 : ¬ (n : Int) = (ns : Int) := by omega
    clear a4
    go_wp2_with fail
    go_ret2
    exact ⟨Below.refl _ _, Or.inl ⟨HA.out, rfl⟩⟩
  subst a4
  have hx1 : (1 : Int) ≤ nx := by omega
  have hx2 : nx ≤ 1099511627776 := by omega
  have h8 : (n : Int) ≤ 8 := by omega
  clear a1 a2 a3
  have F0 : FR (w.alloc (.cells #[.int .i64 nx] 3)) w.heap.size (.slice (some ⟨w.heap.size, 0, none⟩) (0 + 1) 1) (fstL nx sz 0) :=
    Or.inr ⟨w.heap.size, 0, 1, _, rfl, Nat.le_refl _, Bk.new _ _ _, by simp [fstL], by simp, by simp, fun j x hj => by
      have hjl := (List.getElem?_eq_some_iff.1 hj).1
      rw [fstL_len] at hjl
      obtain rfl : j = 0 := by omega
      rw [fstL_get nx sz (Nat.le_refl _)] at hj
      simp only [Option.some.injEq, fst] at hj
      rw [← hj, Int.toNat_of_nonneg (by omega)]
      rfl⟩
  have HF0 := Lib.hid F0
  clear F0
  go_wp2_with fail
  go_loopg [8, 9] n (fun g s8 s9 wr => ∃ A cap i, i ≤ n ∧ g = n - i ∧ s8 = .slice A (i + 1) cap ∧ s9 = .int .i64 ((i : Nat) : Int) ∧ Hid (FR wr w.heap.size (.slice A (i + 1) cap) (fstL nx sz i) ∧ (∀ k, k < i → 1 ≤ sz k ∧ sz k ≤ 20) ∧ Below w.heap.size w wr))
  case atStart => exact ⟨_, 1, 0, by omega, by omega, rfl, rfl, Lib.hid ⟨HF0.out, fun k hk => by omega, (Below.refl w.heap.size w).alloc (Nat.le_refl _) _⟩⟩
  case round =>
    clear HF0
    obtain ⟨A, cap, i, hi, hg, rfl, rfl, H⟩ := hrel
    by_cases hin : i < n
    · obtain ⟨gs, os, rfl, hc⟩ := HSZ.out (by omega)
      have r0 : wr.cell? ⟨gs, os + i, none⟩ = some (.int .i64 (sz i)) := keep_below (hc i hin) H.out.2.2
      obtain ⟨x, hx⟩ : ∃ x, Hid (sz i = x) := ⟨_, Lib.hid rfl⟩
      rw [hx.out] at r0
      clear hc
      have i0 : (0 : Int) ≤ (i : Int) := by omega
      have i1 : (i : Int) < (n : Int) := by omega
      have i2 : (i : Int) < (i : Int) + 1 := by omega
      by_cases b1 : x < 1
      · have HA := Lib.hid (show argBad nx n sz n from Or.inr (Or.inr (Or.inr (Or.inr ⟨i, hin, Or.inl (by rw [hx.out]; exact b1)⟩))))
        go_wp2_with fail
        go_ret2
        exact ⟨H.out.2.2, Or.inl ⟨HA.out, rfl⟩⟩
      by_cases b2 : 20 < x
      · have HA := Lib.hid (show argBad nx n sz n from Or.inr (Or.inr (Or.inr (Or.inr ⟨i, hin, Or.inr (by rw [hx.out]; exact b2)⟩))))
        go_wp2_with fail
        go_ret2
        exact ⟨H.out.2.2, Or.inl ⟨HA.out, rfl⟩⟩
      have b3 : 1 ≤ x := by omega
      have b4 : x ≤ 20 := by omega
      have hr := fst_range (nx := nx) H.out.2.1 i (Nat.le_refl _)
      have hz := Lib.hid (show fst nx sz (i + 1) = fst nx sz i + sz i from rfl)
      obtain ⟨y, hy⟩ : ∃ y : Nat, fst nx sz i = (y : Int) := ⟨(fst nx sz i).toNat, by omega⟩
      obtain ⟨g1, o1, rfl, q0⟩ := H.out.1.cellAt (fstL_get nx sz (Nat.le_refl i))
      rw [hy] at hr
      rw [hy, Int.toNat_natCast] at q0
      have HY := Lib.hid hy
      have hil : i + 1 ≤ 1000000 := by omega
      clear b1 b2 hy
      go_upto_region 9 with fail
      obtain ⟨z, hzz⟩ : ∃ z : Nat, Hid ((y : Int) + x = (z : Int)) := ⟨((y : Int) + x).toNat, Lib.hid (by omega)⟩
      have hwz : IntKind.i64.wrap ((y : Int) + x) = (z : Int) := by rw [hzz.out]; have := hzz.out; simp [IntKind.wrap, IntKind.bits, IntKind.signed]; omega
      have hFx : FR ((wr.alloc (.cells #[.int .i64 (z : Int)] 3)).drew) w.heap.size (.slice (some ⟨g1, o1, none⟩) (i + 1) cap) (fstL nx sz i) := (H.out.1.keep (w' := wr.alloc (.cells #[.int .i64 (z : Int)] 3)) fun g _ hl => Below.heap_alloc wr _ g hl).heap rfl
      obtain ⟨r5, W5, e5, f5, k5, _⟩ := hFx.append_run (by rw [fstL_len]; exact hil) wr.heap.size z ((Bk.new wr 3 #[.int .i64 (z : Int)]).drew.cell (i := 0) rfl) (Nat.le_trans H.out.2.2.size (by simp))
      obtain ⟨A', cap', q5⟩ := f5.form
      rw [List.length_append, fstL_len, List.length_singleton] at q5
      subst q5
      have hB5 := ((H.out.2.2.alloc H.out.2.2.size (.cells #[.int .i64 (z : Int)] 3)).drew).grown k5 (Nat.le_trans H.out.2.2.size (by simp)) fun k hk => (H.out.1.lt k hk).1
      have E5 := Lib.hid e5
      have H5 := Lib.hid (show _ ∧ _ from ⟨f5, hB5⟩)
      clear e5 f5 k5 hB5 hFx
      go_region_law (refine step_append_eq E5.out _ _ rfl rfl rfl rfl rfl ?_)
      all_goals
        go_wp2_with fail
        go_roundg (n - (i + 1))
        case measure => omega
        case rel =>
          refine ⟨A', cap', i + 1, by omega, by omega, rfl, by go_num, Lib.hid ⟨?_, fun k hk => ?_, H5.out.2⟩⟩
          · rw [fstL_succ, hz.out, HY.out, hx.out, hzz.out, Int.toNat_natCast]
            exact H5.out.1
          · by_cases e1 : k = i
            · rw [e1, hx.out]; omega
            · exact H.out.2.1 k (by omega)
    · obtain rfl : n = i := by omega
      have hok := Lib.hid H.out.2.1
      have hna := Lib.hid (show ¬ argBad nx n sz n by
        rintro (h | h | h | h | ⟨k, hk, h⟩)
        · omega
        · omega
        · omega
        · omega
        · have := hok.out k hk; omega)
      go_wp2_with fail
      rename World => w8
      go_loopg [10, 11, 12] n (fun g s10 s11 s12 w9 => ∃ A1 c1 A2 c2 i, s10 = .slice A1 i c1 ∧ s11 = .slice A2 i c2 ∧ s12 = .int .i64 ((i : Nat) : Int) ∧ i ≤ n ∧ g = n - i ∧ ∃ vA vO,
        Hid (FS w9 w.heap.size (.slice A1 i c1) vA ∧ FS w9 w.heap.size (.slice A2 i c2) vO ∧ (∀ g, (Value.slice A1 i c1).ownBlock = some g → (Value.slice A2 i c2).ownBlock ≠ some g) ∧ FR w9 w.heap.size (.slice A (n + 1) cap) (fstL nx sz n) ∧
          (∀ k, k < i → ∃ v, vA[k]? = some v ∧ FR w9 w.heap.size v (specsP e k (m k))) ∧ (∀ k, k < i → ∃ v l, vO[k]? = some v ∧ FR w9 w.heap.size v l ∧ l.Pairwise (· < ·) ∧ ∀ x, x ∈ l ↔ x ∈ jobsP nx sz e k (m k)) ∧
          (∀ k, k < i → ∀ j, j < m k → ¬ badN nx n (e k j)) ∧ Below w.heap.size w w9))
      case atStart => exact ⟨none, 0, none, 0, 0, rfl, rfl, rfl, by omega, by omega, [], [], Lib.hid ⟨FS.nil _ _, FS.nil _ _, fun g hg => by simp [Value.ownBlock] at hg, H.out.1, fun k hk => by omega, fun k hk => by omega, fun k hk => by omega, H.out.2.2⟩⟩
      case round =>
        clear H
        obtain ⟨A1, c1, A2, c2, i, rfl, rfl, rfl, hi, hg, vA, vO, H⟩ := hrel
        rename World => wo
        by_cases hin : i < n
        · obtain ⟨bl, off, rfl, hrows⟩ := HROW.out (by omega)
          obtain ⟨Ai, ci, hcell, hnums⟩ := hrows i hin
          obtain ⟨gf, of, rfl, _⟩ := H.out.2.2.2.1.cellAt (fstL_get nx sz (Nat.le_refl n))
          have hro : wo.cell? ⟨bl, off + i, none⟩ = some (.slice Ai (m i) ci) := keep_below hcell H.out.2.2.2.2.2.2.2
          have HRO := Lib.hid hro
          have HN := Lib.hid (hnums.below H.out.2.2.2.2.2.2.2)
          have hmi : ((m i : Nat) : Int) ≤ 1000 := by have := HM.out i hin; omega
          have i0 : (0 : Int) ≤ (i : Int) := by omega
          have i1 : (i : Int) < (n : Int) := by omega
          clear hcell hrows hnums hro
          go_wp2_with fail
          go_loopg [13, 14, 15] (m i) (fun g s13 s14 s15 w3 => ∃ A3 k3 c3 A4 k4 c4 j l, s13 = .slice A3 k3 c3 ∧ s14 = .slice A4 k4 c4 ∧ s15 = .int .i64 ((j : Nat) : Int) ∧ j ≤ m i ∧ g = m i - j ∧
            Hid (FR w3 wo.heap.size (.slice A3 k3 c3) (specsP e i j) ∧ FR w3 wo.heap.size (.slice A4 k4 c4) l ∧ l.Pairwise (· < ·) ∧ (∀ x, x ∈ l ↔ x ∈ jobsP nx sz e i j) ∧ (∀ p, p < j → ¬ badN nx n (e i p)) ∧ Below wo.heap.size wo w3 ∧ ∀ g, (Value.slice A3 k3 c3).ownBlock = some g → (Value.slice A4 k4 c4).ownBlock ≠ some g))
          case atStart => exact ⟨none, 0, 0, none, 0, 0, 0, [], rfl, rfl, rfl, by omega, by omega, Lib.hid ⟨Or.inl ⟨rfl, rfl⟩, Or.inl ⟨rfl, rfl⟩, List.Pairwise.nil, fun x => Iff.rfl, fun p hp => by omega, Below.refl _ _, fun g hg => by simp [Value.ownBlock] at hg⟩⟩
          case round =>
            obtain ⟨A3, k3, c3, A4, k4, c4, j, l, rfl, rfl, rfl, hj, hg2, H3⟩ := hrel
            have r0 : wr.cell? ⟨bl, off + i, none⟩ = some (.slice Ai (m i) ci) := keep_below HRO.out H3.out.2.2.2.2.2.1
            by_cases hjm : j < m i
            · obtain ⟨g1, o1, rfl, hc⟩ := HN.out (by omega)
              have r1 : wr.cell? ⟨g1, o1 + j, none⟩ = some (.int .i64 (e i j)) := keep_below (hc j hjm) H3.out.2.2.2.2.2.1
              clear hc
              obtain ⟨x, hx⟩ : ∃ x, Hid (e i j = x) := ⟨_, Lib.hid rfl⟩
              rw [hx.out] at r1
              have j0 : (0 : Int) ≤ (j : Int) := by omega
              have j1 : (j : Int) < ((m i : Nat) : Int) := by omega
              have hnc : badN nx n x → ¬ clean nx n m e := fun hb hc => hc i hin j hjm (by rw [hx.out]; exact hb)
              have hbel := Lib.hid (below_up H.out.2.2.2.2.2.2.2 H3.out.2.2.2.2.2.1)
              by_cases b1 : x = 0
              · have HB := Lib.hid (hnc (Or.inl b1))
                subst b1
                clear hnc
                go_wp2_with fail
                go_ret2
                exact ⟨hbel.out, Or.inr ⟨hna.out, Or.inl ⟨HB.out, rfl⟩⟩⟩
              by_cases b2 : nx ≤ x
              · have HB := Lib.hid (hnc (Or.inr (Or.inl b2)))
                clear hnc
                go_wp2_with fail
                go_ret2
                exact ⟨hbel.out, Or.inr ⟨hna.out, Or.inl ⟨HB.out, rfl⟩⟩⟩
              by_cases b3 : x < -(n : Int)
              · have HB := Lib.hid (hnc (Or.inr (Or.inr b3)))
                clear hnc
                go_wp2_with fail
                go_ret2
                exact ⟨hbel.out, Or.inr ⟨hna.out, Or.inl ⟨HB.out, rfl⟩⟩⟩
              clear hnc
              have hgood := Lib.hid (show ∀ p, p < j + 1 → ¬ badN nx n (e i p) by
                intro p hp
                by_cases c : p = j
                · rw [c, hx.out]
                  rintro (h | h | h)
                  · exact b1 h
                  · exact b2 h
                  · exact b3 h
                · exact H3.out.2.2.2.2.1 p (by omega))
              have hmi3 := HM.out i hin
              have hk4 : k4 ≤ 900000 := by
                have h1 := jobsP_len hok.out e i j H3.out.2.2.2.2.1
                have h2 := rise_len H3.out.2.2.1 H3.out.2.2.2.1
                have h3 := H3.out.2.1.len
                omega
              by_cases b4 : 0 < x
              · obtain ⟨t, rfl⟩ := Int.eq_ofNat_of_zero_le (by omega : 0 ≤ x)
                have hj1 := Lib.hid (show job1 nx sz (e i j) = [t] by unfold job1; rw [hx.out, if_pos b4]; simp)
                have hs1 := Lib.hid (show spec1 (e i j) = [] by unfold spec1; rw [hx.out, if_neg (by omega)])
                clear b1
                go_wp2_with fail
                refine (put_any H3.out.2.1 H3.out.2.2.2.2.2.1.size hk4 H3.out.2.2.1 t).mono ?_
                rintro x5 w5 ⟨A5, k5, c5, l5, rfl, hF5, hp5, hm5, hb5, hf5⟩
                have H5 := Lib.hid (show _ ∧ _ ∧ _ ∧ _ ∧ _ from ⟨hF5, hp5, hm5, hb5, hf5⟩)
                clear hF5 hp5 hm5 hb5 hf5
                go_wp2_with fail
                go_roundg (m i - (j + 1))
                case measure => omega
                case rel =>
                  refine ⟨A3, k3, c3, A5, k5, c5, j + 1, l5, rfl, rfl, by go_num, by omega, rfl, Lib.hid ⟨?_, H5.out.1, H5.out.2.1, fun y => ?_, hgood.out, below_up H3.out.2.2.2.2.2.1 H5.out.2.2.2.1, apart_fresh2 H3.out.2.2.2.2.2.2 H5.out.2.2.2.2 fun g hg => (H3.out.1.lt g hg).2⟩⟩
                  · rw [specsP_succ, hs1.out, List.append_nil]; exact H3.out.1.pass H5.out.2.2.2.1
                  · rw [H5.out.2.2.1, H3.out.2.2.2.1, jobsP_succ, hj1.out, List.mem_append, List.mem_singleton]
                    exact ⟨fun h => h.symm, fun h => h.symm⟩
              · obtain ⟨k, hk⟩ : ∃ k : Nat, Hid (-1 - x = (k : Int)) := ⟨(-1 - x).toNat, Lib.hid (by omega)⟩
                have hkn : k < n := by have := hk.out; omega
                have hj1 := Lib.hid (show job1 nx sz (e i j) = List.range' (fst nx sz k).toNat (sz k).toNat by unfold job1; rw [hx.out, if_neg b4, hk.out, Int.toNat_natCast])
                have hs1 := Lib.hid (show spec1 (e i j) = [k] by unfold spec1; rw [hx.out, if_pos (by omega), hk.out, Int.toNat_natCast])
                have hx3 : x < 0 := by omega
                have hx4 : -8 ≤ x := by omega
                have hk3 : k3 ≤ 1000000 := by
                  have h1 := specsP_len e i j
                  have h3 := H3.out.1.len
                  omega
                have hfr := fst_range (nx := nx) hok.out k (by omega)
                have hfn : fst nx sz (k + 1) = fst nx sz k + sz k := rfl
                have hsk := hok.out k hkn
                obtain ⟨fk, hfk⟩ : ∃ fk : Nat, fst nx sz k = (fk : Int) := ⟨(fst nx sz k).toNat, by omega⟩
                obtain ⟨sk, hsk2⟩ : ∃ sk : Nat, sz k = (sk : Int) := ⟨(sz k).toNat, by omega⟩
                rw [hfk, hsk2] at hfn
                have hj2 := Lib.hid (show job1 nx sz (e i j) = List.range' fk sk by rw [hj1.out, hfk, hsk2, Int.toNat_natCast, Int.toNat_natCast])
                have p0 : wo.cell? ⟨gf, of + (-1 - x).toNat, none⟩ = some (.int .i64 (fk : Int)) := by
                  obtain ⟨g', o', e', hc'⟩ := H.out.2.2.2.1.cellAt (fstL_get nx sz (i := n) (k := k) (by omega))
                  cases e'
                  rw [hfk, Int.toNat_natCast] at hc'
                  rw [hk.out, Int.toNat_natCast]; exact hc'
                have p1 : wo.cell? ⟨gf, of + (-x).toNat, none⟩ = some (.int .i64 ((fk + sk : Nat) : Int)) := by
                  obtain ⟨g', o', e', hc'⟩ := H.out.2.2.2.1.cellAt (fstL_get nx sz (i := n) (k := k + 1) (by omega))
                  cases e'
                  rw [hfn, ← Int.natCast_add, Int.toNat_natCast] at hc'
                  rw [show (-x).toNat = k + 1 by have := hk.out; omega]; exact hc'
                have P0 := Lib.hid p0
                have P1 := Lib.hid p1
                have hfk2 : (fk : Int) ≤ 1099511628776 := by omega
                have hsk3 : sk ≤ 20 := by omega
                have n0 : (0 : Int) ≤ -1 - x := by omega
                have n1 : -1 - x < (n : Int) + 1 := by omega
                have n2 : (0 : Int) ≤ -x := by omega
                have n3 : -x < (n : Int) + 1 := by omega
                clear hfr hfn hsk hfk hsk2 p0 p1
                go_upto_region 26 with (at_builtin; refine wpList_frpushI H3.out.1 hk.out hk3 H3.out.2.2.2.2.2.1.size rfl _ _ rfl rfl rfl rfl ?_)
                intro A' cap' W' hg5 hF5 hr5
                have hB5 := H3.out.2.2.2.2.2.1.grown hg5 H3.out.2.2.2.2.2.1.size fun k hk => (H3.out.1.lt k hk).1
                have hJ5 : FR W' wo.heap.size (.slice A4 k4 c4) l := H3.out.2.1.keep fun g hg1 hl => hg5.block g hl fun c => H3.out.2.2.2.2.2.2 g c.symm hg1
                have hA5 := apart_fresh H3.out.2.2.2.2.2.2 hr5 fun g hg => (H3.out.2.1.lt g hg).2
                have H5 := Lib.hid (show _ ∧ _ ∧ _ ∧ _ from ⟨hF5, hJ5, hB5, hA5⟩)
                clear hg5 hF5 hr5 hB5 hJ5 hA5
                have p5 : W'.cell? ⟨gf, of + (-1 - x).toNat, none⟩ = some (.int .i64 (fk : Int)) := keep_below P0.out H5.out.2.2.1
                go_wp2_with fail
                go_loopg [14, 17] sk (fun g s14 s17 w9 => ∃ A6 k6 c6 q l6, s14 = .slice A6 k6 c6 ∧ s17 = .int .i64 ((q : Nat) : Int) ∧ fk ≤ q ∧ q ≤ fk + sk ∧ g = fk + sk - q ∧
                  Hid (FR w9 wo.heap.size (.slice A' (k3 + 1) cap') (specsP e i j ++ [k]) ∧ FR w9 wo.heap.size (.slice A6 k6 c6) l6 ∧ l6.Pairwise (· < ·) ∧ (∀ x, x ∈ l6 ↔ x ∈ jobsP nx sz e i j ++ List.range' fk (q - fk)) ∧ Below wo.heap.size wo w9 ∧ ∀ g, (Value.slice A' (k3 + 1) cap').ownBlock = some g → (Value.slice A6 k6 c6).ownBlock ≠ some g))
                case atStart => exact ⟨A4, k4, c4, fk, l, rfl, rfl, by omega, by omega, by omega, Lib.hid ⟨H5.out.1, H5.out.2.1, H3.out.2.2.1, by rw [Nat.sub_self]; simpa using H3.out.2.2.2.1, H5.out.2.2.1, H5.out.2.2.2⟩⟩
                case round =>
                  clear H5
                  obtain ⟨A6, k6, c6, q, l6, rfl, rfl, hq1, hq2, hg3, H6⟩ := hrel
                  have p6 : wr.cell? ⟨gf, of + (-x).toNat, none⟩ = some (.int .i64 ((fk + sk : Nat) : Int)) := keep_below P1.out H6.out.2.2.2.2.1
                  by_cases hlt : q < fk + sk
                  · have hlt2 : (q : Int) < (fk : Int) + (sk : Int) := by omega
                    have hk6 : k6 ≤ 900000 := by
                      have h1 := jobsP_len hok.out e i j H3.out.2.2.2.2.1
                      have h2 := rise_len H6.out.2.2.1 H6.out.2.2.2.1
                      have h3 := H6.out.2.1.len
                      rw [List.length_append, List.length_range'] at h2
                      omega
                    go_wp2_with fail
                    refine (put_any H6.out.2.1 H6.out.2.2.2.2.1.size hk6 H6.out.2.2.1 q).mono ?_
                    rintro x7 w7 ⟨A7, k7, c7, l7, rfl, hF7, hp7, hm7, hb7, hf7⟩
                    have H7 := Lib.hid (show _ ∧ _ ∧ _ ∧ _ ∧ _ from ⟨hF7, hp7, hm7, hb7, hf7⟩)
                    clear hF7 hp7 hm7 hb7 hf7 p6
                    go_wp2_with fail
                    go_roundg (fk + sk - (q + 1))
                    case measure => omega
                    case rel =>
                      refine ⟨A7, k7, c7, q + 1, l7, rfl, by go_num, by omega, by omega, rfl, Lib.hid ⟨H6.out.1.pass H7.out.2.2.2.1, H7.out.1, H7.out.2.1, fun y => ?_, below_up H6.out.2.2.2.2.1 H7.out.2.2.2.1, apart_fresh2 H6.out.2.2.2.2.2 H7.out.2.2.2.2 fun g hg => (H6.out.1.lt g hg).2⟩⟩
                      rw [H7.out.2.2.1, H6.out.2.2.2.1, show q + 1 - fk = (q - fk) + 1 by omega, List.range'_1_concat, show fk + (q - fk) = q by omega, ← List.append_assoc, List.mem_append (s := jobsP nx sz e i j ++ _), List.mem_singleton]
                      exact ⟨fun h => h.symm, fun h => h.symm⟩
                  · have hlt2 : ¬ (q : Int) < (fk : Int) + (sk : Int) := by omega
                    have hqe : q = fk + sk := by omega
                    go_wp2_with fail
                    go_roundg (m i - (j + 1))
                    case measure => omega
                    case rel =>
                      refine ⟨A', k3 + 1, cap', A6, k6, c6, j + 1, l6, rfl, rfl, by go_num, by omega, rfl, Lib.hid ⟨?_, H6.out.2.1, H6.out.2.2.1, fun y => ?_, hgood.out, H6.out.2.2.2.2.1, H6.out.2.2.2.2.2⟩⟩
                      · rw [specsP_succ, hs1.out]; exact H6.out.1
                      · rw [H6.out.2.2.2.1, jobsP_succ, hj2.out, hqe, Nat.add_sub_cancel_left]
            · obtain rfl : j = m i := by omega
              have hin2 : i ≤ 1000000 := by omega
              have hS0 := H.out.1.pass (below_pass (Below.refl _ _) (Nat.le_refl _) H3.out.2.2.2.2.2.1)
              have HS0 := Lib.hid hS0
              have HBW := Lib.hid (below_up H.out.2.2.2.2.2.2.2 H3.out.2.2.2.2.2.1)
              clear hS0
              go_upto_region 31 with (at_builtin; refine wpList_fspush HS0.out rfl hin2 HBW.out.size rfl _ _ rfl rfl rfl rfl ?_)
              intro A5 c5 W5 hg5 hF5 hr5
              have hO5 := (H.out.2.1.pass H3.out.2.2.2.2.2.1).grownS (w' := W5) (fun g hg c => H.out.2.2.1 g c hg) hg5
              have hB5 := HBW.out.grown hg5 HBW.out.size fun k hk => (HS0.out.lt k hk).1
              have hK5 : ∀ b v l, FR wr b v l → FR W5 b v l := fun b v l h => h.grownS HS0.out hg5
              have hap5 := apart_fresh (fun g h c => H.out.2.2.1 g h c) hr5 fun g hg => ((H.out.2.1.pass H3.out.2.2.2.2.2.1).lt g hg).2
              have H5 := Lib.hid (show _ ∧ _ ∧ _ ∧ _ ∧ _ from ⟨hF5, hO5, hB5, hK5, hap5⟩)
              clear hg5 hF5 hr5 hB5 hO5 hK5 hap5
              go_wp2_with (at_builtin; refine wpList_fspush H5.out.2.1 rfl hin2 H5.out.2.2.1.size rfl _ _ rfl rfl rfl rfl ?_)
              intro A6 c6 W6 hg6 hF6 hr6
              have hA6 := H5.out.1.grownS (w' := W6) H5.out.2.2.2.2 hg6
              have hB6 := H5.out.2.2.1.grown hg6 H5.out.2.2.1.size fun k hk => (H5.out.2.1.lt k hk).1
              have hK6 : ∀ b v l, FR wr b v l → FR W6 b v l := fun b v l h => (H5.out.2.2.2.1 b v l h).grownS H5.out.2.1 hg6
              have hap6 := apart_fresh2 H5.out.2.2.2.2 hr6 fun g hg => (H5.out.1.lt g hg).2
              have H6 := Lib.hid (show _ ∧ _ ∧ _ ∧ _ ∧ _ from ⟨hA6, hF6, hB6, hK6, hap6⟩)
              clear hg6 hF6 hr6 hA6 hB6 hK6 hap6
              go_wp2_with fail
              go_roundg (n - (i + 1))
              case measure => omega
              case rel =>
                have hlA : vA.length = i := HS0.out.len.symm
                have hlO : vO.length = i := H.out.2.1.len.symm
                refine ⟨A5, c5, A6, c6, i + 1, rfl, rfl, by go_num, by omega, rfl, _, _, Lib.hid ⟨H6.out.1, H6.out.2.1, H6.out.2.2.2.2, H6.out.2.2.2.1 _ _ _ (H.out.2.2.2.1.pass H3.out.2.2.2.2.2.1), fun k hk => ?_, fun k hk => ?_, fun k hk => ?_, H6.out.2.2.1⟩⟩
                · by_cases e1 : k = i
                  · subst e1
                    refine ⟨_, by rw [List.getElem?_append_right (by omega), hlA, Nat.sub_self]; rfl, H6.out.2.2.2.1 _ _ _ (H3.out.1.mono H.out.2.2.2.2.2.2.2.size)⟩
                  · obtain ⟨v, h1, h2⟩ := H.out.2.2.2.2.1 k (by omega)
                    exact ⟨v, by rw [List.getElem?_append_left (by omega)]; exact h1, H6.out.2.2.2.1 _ _ _ (h2.pass H3.out.2.2.2.2.2.1)⟩
                · by_cases e1 : k = i
                  · subst e1
                    exact ⟨_, l, by rw [List.getElem?_append_right (by omega), hlO, Nat.sub_self]; rfl, H6.out.2.2.2.1 _ _ _ (H3.out.2.1.mono H.out.2.2.2.2.2.2.2.size), H3.out.2.2.1, H3.out.2.2.2.1⟩
                  · obtain ⟨v, l', h1, h2, h3⟩ := H.out.2.2.2.2.2.1 k (by omega)
                    exact ⟨v, l', by rw [List.getElem?_append_left (by omega)]; exact h1, H6.out.2.2.2.1 _ _ _ (h2.pass H3.out.2.2.2.2.2.1), h3⟩
                · by_cases e1 : k = i
                  · subst e1; exact H3.out.2.2.2.2.1
                  · exact H.out.2.2.2.2.2.2.1 k (by omega)
        · obtain rfl : n = i := by omega
          have hcl := Lib.hid (show clean nx n m e from fun k hk j hj => H.out.2.2.2.2.2.2.1 k hk j hj)
          obtain ⟨ls, hls⟩ : ∃ ls : Nat → List Nat, ∀ k, k < n → ∃ v, vO[k]? = some v ∧ FR wo w.heap.size v (ls k) ∧ (ls k).Pairwise (· < ·) ∧ ∀ x, x ∈ ls k ↔ x ∈ jobsP nx sz e k (m k) := by
            have each : ∀ k, k < n → ∃ l : List Nat, ∃ v, vO[k]? = some v ∧ FR wo w.heap.size v l ∧ l.Pairwise (· < ·) ∧ ∀ x, x ∈ l ↔ x ∈ jobsP nx sz e k (m k) := fun k hk => by
              obtain ⟨v, l, h⟩ := H.out.2.2.2.2.2.1 k hk
              exact ⟨l, v, h⟩
            exact Go.Deep.choose_lt each
          have HLS := Lib.hid hls
          have hR : RowsN wo A1 n (fun k => (specsP e k (m k)).length) (fun k j => (((specsP e k (m k)).getD j 0 : Nat) : Int)) := fun hn0 => by
            obtain ⟨v0, hv0, _⟩ := H.out.2.2.2.2.1 0 hn0
            obtain ⟨g, o, rfl, _⟩ := H.out.1.cellAt hv0
            refine ⟨g, o, rfl, fun k hk => ?_⟩
            obtain ⟨v, hv, hF⟩ := H.out.2.2.2.2.1 k hk
            obtain ⟨g', o', e', hc⟩ := H.out.1.cellAt hv
            cases e'
            obtain ⟨Ak, ck, ek⟩ := hF.form
            rw [ek] at hc hF
            exact ⟨Ak, ck, hc, hF.nums⟩
          have hlen : ∀ k, k < n → (specsP e k (m k)).length ≤ 1000 := fun k hk => Nat.le_trans (specsP_len e k (m k)) (HM.out k hk)
          have C := Lib.hid (rorder_any A1 n c1 _ _ hn hlen wo hR)
          have HA : Hid (∀ k, k < n → rowsOf (fun k => (specsP e k (m k)).length) (fun k j => (((specsP e k (m k)).getD j 0 : Nat) : Int)) k = specsL m e k) := Lib.hid fun k hk => pre_getD _
          clear hlen hR hls
          go_wp2_with fail
          refine C.out.mono ?_
          rintro x9 w9 (⟨r9, o, rfl, hrun, _, hb9⟩ | ⟨o, rfl, hrun, hb9⟩)
          · have HR9 := Lib.hid (show Run n (specsL m e) [] o true from hrun.congr HA.out)
            have HB9 := Lib.hid hb9
            clear C hrun hb9
            go_wp2_with fail
            go_ret2
            refine ⟨below_up H.out.2.2.2.2.2.2.2 HB9.out, Or.inr ⟨hna.out, Or.inr ⟨hcl.out, Or.inr ⟨o, HR9.out, A2, c2, ls, rfl, fun k hk => ?_, fun k hk => ?_⟩⟩⟩⟩
            · obtain ⟨v, h1, h2, _⟩ := HLS.out k hk
              obtain ⟨g, o', e', hc⟩ := H.out.2.1.cellAt h1
              exact ⟨g, o', v, e', keep_below hc HB9.out, h2.pass HB9.out⟩
            · obtain ⟨v, _, _, h3⟩ := HLS.out k hk
              exact h3
          · have HR9 := Lib.hid (show Run n (specsL m e) [] o false from hrun.congr HA.out)
            have HB9 := Lib.hid hb9
            clear C hrun hb9
            go_wp2_with fail
            go_ret2
            exact ⟨below_up H.out.2.2.2.2.2.2.2 HB9.out, Or.inr ⟨hna.out, Or.inr ⟨hcl.out, Or.inl ⟨o, HR9.out, rfl⟩⟩⟩⟩
end Go.Proofs.Ytecimlbdcldkdaa
