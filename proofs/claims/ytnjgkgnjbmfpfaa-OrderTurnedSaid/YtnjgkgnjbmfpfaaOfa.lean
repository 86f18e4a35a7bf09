/- Walk of OrderFair. -/
import Derived.Test.YtnjgkgnjbmfpfaaOwh
import Derived.Test.YtnjgkgnjbmfpfaaOhs
import Derived.Test.YtnjgkgnjbmfpfaaWe
namespace Go.Proofs.Ytnjgkgnjbmfpfaa
open Go.RowKit Go.Maps Go.Sort Ot

/-- all that lay below B reads as in W -/
theorem keepW {w0 W w w' : World} {B : Nat} (hb : Below w.heap.size w w') (h : Below w0.heap.size w0 w ∧ B ≤ w.heap.size ∧ ∀ b o, b < B → w.cell? ⟨b, o, none⟩ = W.cell? ⟨b, o, none⟩) : Below w0.heap.size w0 w' ∧ B ≤ w'.heap.size ∧ ∀ b o, b < B → w'.cell? ⟨b, o, none⟩ = W.cell? ⟨b, o, none⟩ :=
  ⟨below_pass h.1 h.1.size hb, Nat.le_trans h.2.1 hb.size, fun b o hlt => (World.cell?_of_block (hb.block b (Nat.lt_of_lt_of_le hlt h.2.1))).trans (h.2.2 b o hlt)⟩
theorem keepWa {w0 W w : World} {B : Nat} {o : Obj} (h : Below w0.heap.size w0 w ∧ B ≤ w.heap.size ∧ ∀ b o, b < B → w.cell? ⟨b, o, none⟩ = W.cell? ⟨b, o, none⟩) : Below w0.heap.size w0 (w.alloc o) ∧ B ≤ (w.alloc o).heap.size ∧ ∀ b q, b < B → (w.alloc o).cell? ⟨b, q, none⟩ = W.cell? ⟨b, q, none⟩ :=
  ⟨h.1.alloc h.1.size _, Nat.le_trans h.2.1 (by simp), fun b q hlt => (World.cell?_of_block (Below.heap_alloc w o b (Nat.lt_of_lt_of_le hlt h.2.1))).trans (h.2.2 b q hlt)⟩
theorem keepWs {w0 W w : World} {B : Nat} {p : Addr} {v : Value} (h : Below w0.heap.size w0 w ∧ B ≤ w.heap.size ∧ ∀ b o, b < B → w.cell? ⟨b, o, none⟩ = W.cell? ⟨b, o, none⟩) (h1 : B ≤ p.block) (h2 : w0.heap.size ≤ p.block) : Below w0.heap.size w0 (w.setCell p v) ∧ B ≤ (w.setCell p v).heap.size ∧ ∀ b q, b < B → (w.setCell p v).cell? ⟨b, q, none⟩ = W.cell? ⟨b, q, none⟩ :=
  ⟨h.1.setCell h2 _, Nat.le_trans h.2.1 (by simp), fun b q hlt => (World.cell?_of_block (Below.heap_setCell w p v b (by omega))).trans (h.2.2 b q hlt)⟩

set_option maxRecDepth 100000 in
set_option maxHeartbeats 8000000 in
theorem walk_OrderFair (u0 u1 u2 u3 : Int) (A1 : Option Addr) (nh k1 : Nat) (A2 : Option Addr) (n k2 : Nat) (hu : In64 u0 ∧ In64 u1 ∧ In64 u2 ∧ In64 u3) {w : World} (hh : ∃ f, UsesIn w A1 nh f) (hj : ∃ f, WantsIn w A2 n f) :
    Calls Try.prog 12 #[.agg #[.int .i64 u0, .int .i64 u1, .int .i64 u2, .int .i64 u3], .slice A1 nh k1, .slice A2 n k2] w fun e w' => e = .returned (.bool true) ∧ Below w.heap.size w w' := by
  obtain ⟨h, hh⟩ := hh
  obtain ⟨js, hj⟩ := hj
  have HU := Lib.hid hu
  have HH := Lib.hid hh
  have HJ := Lib.hid hj
  clear hh hj hu
  go_enter Try.func12, Try.ntmps12
  go_wp2_with fail
  refine (awake_any _).mono ?_
  rintro e w1 ⟨rfl, B1⟩
  have K3 : Bk w1 w.heap.size 28 #[.int .i64 u0, .int .i64 u1, .int .i64 u2, .int .i64 u3] := (Bk.new w _ _).pass B1
  have HB1 := Lib.hid (((Below.refl w.heap.size w).alloc (Nat.le_refl _) _).trans (B1.mono (by simp)))
  clear B1
  have c0 : w1.cell? ⟨w.heap.size, 0, none⟩ = some (.int .i64 u0) := K3.cell rfl
  have c1 : w1.cell? ⟨w.heap.size, 1, none⟩ = some (.int .i64 u1) := K3.cell rfl
  have c2 : w1.cell? ⟨w.heap.size, 2, none⟩ = some (.int .i64 u2) := K3.cell rfl
  have c3 : w1.cell? ⟨w.heap.size, 3, none⟩ = some (.int .i64 u3) := K3.cell rfl
  by_cases hb1 : 40 < nh
  · have hb1' : (40 : Int) < (nh : Int) := by omega
    go_wp2_with fail
    go_ret
    exact ⟨rfl, HB1.out⟩
  by_cases hb2 : 30 < n
  · have hb1' : (nh : Int) ≤ 40 := by omega
    have hb2' : (30 : Int) < (n : Int) := by omega
    go_wp2_with fail
    go_ret
    exact ⟨rfl, HB1.out⟩
  have hb1' : (nh : Int) ≤ 40 := by omega
  have hb2' : (n : Int) ≤ 30 := by omega
  have C := Lib.hid (turns_raw u0 u1 u2 u3 HU.out A1 nh k1 h A2 n k2 js (HH.out.keep HB1.out) (HJ.out.keep HB1.out) (by omega) (by omega))
  go_wp2_with fail
  refine C.out.mono ?_
  rintro e w2 ⟨A, c, l, rfl, hF, hT, B2⟩
  have H2 := Lib.hid (show _ ∧ _ ∧ _ ∧ _ from ⟨hF, hT, below_pass HB1.out HB1.out.size B2, K3.pass B2⟩)
  clear hF hT B2 C K3 c0 c1 c2 c3
  go_wp2_with fail
  rename World => wa
  have HT := Lib.hid H2.out.2.1
  have hWH := Lib.hid (v4_in _ _ _ _ HU.out)
  go_loopg [9] n (fun g s9 wr => ∃ i : Nat, i ≤ n ∧ g = n - i ∧ s9 = .int .i64 i ∧ Hid (FR wr w1.heap.size (.slice A n c) l ∧ Below w.heap.size w wr ∧ Bk wr w.heap.size 28 #[.int .i64 u0, .int .i64 u1, .int .i64 u2, .int .i64 u3]))
  case atStart => exact ⟨0, by omega, by omega, rfl, Lib.hid ⟨H2.out.1, H2.out.2.2.1, H2.out.2.2.2⟩⟩
  case round =>
    obtain ⟨i, hi, hg, rfl, H⟩ := hrel
    have i0 : (0 : Int) ≤ (i : Int) := by omega
    have hlen := Lib.hid H.out.1.len
    by_cases hlt : i < n
    · have hlt' : (i : Int) < (n : Int) := by omega
      obtain ⟨y, hy⟩ : ∃ y, l[i]? = some y := ⟨_, List.getElem?_eq_getElem (by rw [← hlen.out]; exact hlt)⟩
      obtain ⟨g1, o1, rfl, cy⟩ := H.out.1.cellAt hy
      have hNx := H2.out.2.1.2 i y hy
      have hyn : (y : Int) < (n : Int) := Int.ofNat_lt.2 hNx.1
      have hy0 : (0 : Int) ≤ (y : Int) := by omega
      have hcap : (n : Int) ≤ (c : Int) := by
        rcases H.out.1 with ⟨e, _⟩ | ⟨g, o, cap, cs, e, _, _, h4, _⟩
        · simp only [Value.slice.injEq] at e
          cases e.1
        · simp only [Value.slice.injEq] at e
          have := e.2.2
          have := hlen.out
          omega
      have hin : (i : Int) ≤ (n : Int) := by omega
      have hic : (i : Int) ≤ (c : Int) := by omega
      obtain ⟨bl, off, rfl, hc⟩ := HJ.out (by omega)
      have cu := ((hc y hNx.1).keep (H.out.2.1.block bl (hc y hNx.1).lt)).c1
      have HF := Lib.hid H.out.1
      have HB := Lib.hid H.out.2.1
      have HK := Lib.hid H.out.2.2
      have hwh : ∀ q, (Par.mk (v4 u0 u1 u2 u3) nh h n js).wh q ≤ 9223372036854775807 := fun q => (hWH.out q).2
      have HY := Lib.hid (show _ ∧ _ from ⟨hy, hNx⟩)
      clear hy hNx hc
      have hrng := num_range (Par.mk (v4 u0 u1 u2 u3) nh h n js) hwh (l.take i) (js y).user
      obtain ⟨sn, hsn⟩ : ∃ v, Hid (num (Par.mk (v4 u0 u1 u2 u3) nh h n js) (l.take i) (js y).user = v) := ⟨_, Lib.hid rfl⟩
      obtain ⟨sd, hsd⟩ : ∃ v, Hid (den (Par.mk (v4 u0 u1 u2 u3) nh h n js) (l.take i) (js y).user = v) := ⟨_, Lib.hid rfl⟩
      rw [hsn.out, hsd.out] at hrng
      obtain ⟨hs1, hs2⟩ := hrng
      have hnr : ∀ q, now (Par.mk (v4 u0 u1 u2 u3) nh h n js) (l.take i) (js y).user q ≤ 9223372036854775807 := fun q => Int.le_trans (now_range (P := (Par.mk (v4 u0 u1 u2 u3) nh h n js)) (l.take i) (js y).user q).2 (by unfold most; omega)
      have CD := Lib.hid (fun W => rdominant_any (now (Par.mk (v4 u0 u1 u2 u3) nh h n js) (l.take i) (js y).user 0) (now (Par.mk (v4 u0 u1 u2 u3) nh h n js) (l.take i) (js y).user 1) (now (Par.mk (v4 u0 u1 u2 u3) nh h n js) (l.take i) (js y).user 2) (now (Par.mk (v4 u0 u1 u2 u3) nh h n js) (l.take i) (js y).user 3) u0 u1 u2 u3 (hnr 0) (hnr 1) (hnr 2) (hnr 3) HU.out.1.2 HU.out.2.1.2 HU.out.2.2.1.2 HU.out.2.2.2.2 W)
      have eN : (Shr.dom (Shr.four (now (Par.mk (v4 u0 u1 u2 u3) nh h n js) (l.take i) (js y).user 0) (now (Par.mk (v4 u0 u1 u2 u3) nh h n js) (l.take i) (js y).user 1) (now (Par.mk (v4 u0 u1 u2 u3) nh h n js) (l.take i) (js y).user 2) (now (Par.mk (v4 u0 u1 u2 u3) nh h n js) (l.take i) (js y).user 3)) (Shr.four u0 u1 u2 u3)).n = sn := hsn.out
      have eD : (Shr.dom (Shr.four (now (Par.mk (v4 u0 u1 u2 u3) nh h n js) (l.take i) (js y).user 0) (now (Par.mk (v4 u0 u1 u2 u3) nh h n js) (l.take i) (js y).user 1) (now (Par.mk (v4 u0 u1 u2 u3) nh h n js) (l.take i) (js y).user 2) (now (Par.mk (v4 u0 u1 u2 u3) nh h n js) (l.take i) (js y).user 3)) (Shr.four u0 u1 u2 u3)).d = sd := hsd.out
      rw [eN, eD] at CD
      have CH := Lib.hid (fun (W : World) (hW : Below wr.heap.size wr W) => rhas_any (w := W) (js y).user A1 nh k1 h (some ⟨bl, off, none⟩) n k2 js (some ⟨g1, o1, none⟩) i c (l.take i) ((HH.out.keep HB.out).keep hW) ((HJ.out.keep HB.out).keep hW) (((HF.out.pass hW).take (k := i) (by omega)).nums) (by rw [List.length_take, ← hlen.out]; omega) (fun x hx => HT.out.2.lt x (List.mem_of_mem_take hx)) (by omega) (by omega) (by omega))
      have eH : vecV (hasT (js y).user js (hasB (js y).user h nh) (l.take i)) = vecV (now (Par.mk (v4 u0 u1 u2 u3) nh h n js) (l.take i) (js y).user) := rfl
      rw [eH] at CH
      unfold vecV at CH
      obtain ⟨x0, hx0⟩ : ∃ v, Hid (now (Par.mk (v4 u0 u1 u2 u3) nh h n js) (l.take i) (js y).user 0 = v) := ⟨_, Lib.hid rfl⟩
      obtain ⟨x1, hx1⟩ : ∃ v, Hid (now (Par.mk (v4 u0 u1 u2 u3) nh h n js) (l.take i) (js y).user 1 = v) := ⟨_, Lib.hid rfl⟩
      obtain ⟨x2, hx2⟩ : ∃ v, Hid (now (Par.mk (v4 u0 u1 u2 u3) nh h n js) (l.take i) (js y).user 2 = v) := ⟨_, Lib.hid rfl⟩
      obtain ⟨x3, hx3⟩ : ∃ v, Hid (now (Par.mk (v4 u0 u1 u2 u3) nh h n js) (l.take i) (js y).user 3 = v) := ⟨_, Lib.hid rfl⟩
      rw [hx0.out, hx1.out, hx2.out, hx3.out] at CD CH
      obtain ⟨qa, hqa⟩ : ∃ v, Hid ((Shr.dom (Shr.four x0 x1 x2 x3) (Shr.four u0 u1 u2 u3)).at_ = v) := ⟨_, Lib.hid rfl⟩
      rw [hqa.out] at CD
      clear eN eD eH hnr
      obtain ⟨bx, hbx⟩ : ∃ v, Hid ((js y).user = v) := ⟨_, Lib.hid rfl⟩
      rw [hbx.out] at CH cu
      have A0 : ∀ o, (wr.alloc o).cell? ⟨bl, off + y * 7 + 1, none⟩ = some (encStr bx) := fun o => keep_alloc cu
      have A1' : ∀ o, (wr.alloc o).cell? ⟨g1, o1 + i, none⟩ = some (.int .i64 (y : Int)) := fun o => keep_alloc cy
      have kc0 : wr.cell? ⟨w.heap.size, 0, none⟩ = some (.int .i64 u0) := HK.out.cell rfl
      have kc1 : wr.cell? ⟨w.heap.size, 1, none⟩ = some (.int .i64 u1) := HK.out.cell rfl
      have kc2 : wr.cell? ⟨w.heap.size, 2, none⟩ = some (.int .i64 u2) := HK.out.cell rfl
      have kc3 : wr.cell? ⟨w.heap.size, 3, none⟩ = some (.int .i64 u3) := HK.out.cell rfl
      have ka0 := fun o => keep_alloc (o := o) kc0
      have ka1 := fun o => keep_alloc (o := o) kc1
      have ka2 := fun o => keep_alloc (o := o) kc2
      have ka3 := fun o => keep_alloc (o := o) kc3
      go_upto_region 12 with fail
      go_cut [10] (fun s10 wx => ∃ gx, s10 = .pointer (some ⟨gx, 0, none⟩) ∧ Hid (Bk wx gx 23 #[.int .i64 sn, .int .i64 sd] ∧ wr.heap.size ≤ gx ∧ Below wr.heap.size wr wx))
      case first =>
        obtain ⟨B, hBB⟩ : ∃ B, Hid (wr.heap.size = B) := ⟨_, Lib.hid rfl⟩
        have lw : w.heap.size < B := by rw [← hBB.out]; exact HK.out.lt
        have lg : g1 < B := by rw [← hBB.out]; exact World.block_lt_of_cell? wr _ cy
        have lb : bl < B := by rw [← hBB.out]; exact World.block_lt_of_cell? wr _ cu
        have hst : Below wr.heap.size wr wr.drew ∧ B ≤ wr.drew.heap.size ∧ ∀ b o, b < B → wr.drew.cell? ⟨b, o, none⟩ = wr.cell? ⟨b, o, none⟩ := ⟨(Below.refl _ _).drew, by rw [← hBB.out]; exact Nat.le_refl _, fun _ _ _ => rfl⟩
        have hsta : ∀ o, Below wr.heap.size wr (wr.alloc o).drew ∧ B ≤ (wr.alloc o).drew.heap.size ∧ ∀ b q, b < B → (wr.alloc o).drew.cell? ⟨b, q, none⟩ = wr.cell? ⟨b, q, none⟩ := fun o => ⟨((Below.refl _ _).alloc (Nat.le_refl _) _).drew, by rw [← hBB.out]; simp, fun b q hb => World.cell?_of_block (Below.heap_alloc wr o b (by rw [hBB.out]; exact hb))⟩
        go_region_held3 (fun w' => Below wr.heap.size wr w' ∧ B ≤ w'.heap.size ∧ ∀ b o, b < B → w'.cell? ⟨b, o, none⟩ = wr.cell? ⟨b, o, none⟩) (first | exact hst | exact hsta _ | assumption | exact keepW (by assumption) (by first | exact hst | exact hsta _ | assumption | exact keepW (by assumption) (by first | exact hst | exact hsta _ | assumption | exact keepWa (by first | exact hst | exact hsta _ | assumption))) | exact keepWa (by first | exact hst | exact hsta _ | assumption | exact keepW (by assumption) (by first | exact hst | exact hsta _ | assumption | exact keepW (by assumption) (by first | exact hst | exact hsta _ | assumption | exact keepWa (by first | exact hst | exact hsta _ | assumption)))) | (refine keepWs (keepWs (by first | exact hst | exact hsta _ | assumption | exact keepW (by assumption) (by first | exact hst | exact hsta _ | assumption | exact keepW (by assumption) (by first | exact hst | exact hsta _ | assumption | exact keepWa (by first | exact hst | exact hsta _ | assumption)))) ?_ ?_) ?_ ?_ <;> (have hBo := hBB.out; dsimp only; omega))) (first | (go_at_call 32; refine (CH.out _ (And.left (by assumption))).mono ?_; rintro e w3 ⟨rfl, hb⟩; have hsz3 : B ≤ w3.heap.size := (by first | exact Nat.le_trans (Nat.le_of_eq hBB.out.symm) hb.size | exact Nat.le_trans (by rw [← hBB.out]; simp) hb.size); first | (have q := (Bk.new wr 23 #[.int .i64 0, .int .i64 0]).drew.pass hb) | skip) | (go_at_call 20; refine (CD.out _).mono ?_; rintro e w4 ⟨rfl, hb4⟩; first | (have q4 := q.pass hb4; have q0 := q4.cell (i := 0) rfl; have q1 := q4.cell (i := 1) rfl; have f0 := q4.free 0; have f1 := q4.free 1) | (have q4 := (Bk.new w3 23 #[.int .i64 0, .int .i64 0]).pass hb4; have q0 := q4.cell (i := 0) rfl; have q1 := q4.cell (i := 1) rfl; have f0 := q4.free 0; have f1 := q4.free 1) | skip))
        all_goals
          go_wp2_with fail
          go_meet
          have hBo := hBB.out
          first
          | exact ⟨wr.heap.size, rfl, Lib.hid ⟨(q4.set 0 _).set 1 _, Nat.le_refl _, And.left (by assumption)⟩⟩
          | exact ⟨w3.heap.size, rfl, Lib.hid ⟨(q4.set 0 _).set 1 _, by omega, And.left (by assumption)⟩⟩
          | exact ⟨w4.heap.size, rfl, Lib.hid ⟨Bk.new w4 _ _, by have := hb4.size; omega, And.left (by assumption)⟩⟩
          | exact ⟨w4.heap.size, rfl, Lib.hid ⟨Bk.new w4 _ _, by have := hb4.size; omega, And.left (keepWa (keepW hb4 (by assumption)))⟩⟩
      case rest =>
        obtain ⟨gx, rfl, HX⟩ := hcut
        have HF2 := Lib.hid (HF.out.pass HX.out.2.2)
        have HB2 := Lib.hid (below_pass HB.out HB.out.size HX.out.2.2)
        have HK2 := Lib.hid (HK.out.pass HX.out.2.2)
        clear cy cu kc0 kc1 kc2 kc3 ka0 ka1 ka2 ka3 A0 A1' CD CH
        go_wp2_with fail
        rename World => wo
        go_loopg [12] (n - (i + 1)) (fun g s12 wi => ∃ k : Nat, i + 1 ≤ k ∧ k ≤ n ∧ g = n - k ∧ s12 = .int .i64 k ∧ Hid (FR wi w1.heap.size (.slice (some ⟨g1, o1, none⟩) n c) l ∧ Below w.heap.size w wi ∧ Bk wi w.heap.size 28 #[.int .i64 u0, .int .i64 u1, .int .i64 u2, .int .i64 u3] ∧ Bk wi gx 23 #[.int .i64 sn, .int .i64 sd]))
        case atStart => exact ⟨i + 1, by omega, by omega, by omega, by go_num, Lib.hid ⟨HF2.out, HB2.out, HK2.out, HX.out.1⟩⟩
        case round =>
          obtain ⟨k, hik, hkn, hg2, rfl, H3⟩ := hrel
          have k0 : (0 : Int) ≤ (k : Int) := by omega
          by_cases hkl : k < n
          · have hkl' : (k : Int) < (n : Int) := by omega
            obtain ⟨z, hz⟩ : ∃ z, l[k]? = some z := ⟨_, List.getElem?_eq_getElem (by rw [← hlen.out]; exact hkl)⟩
            obtain ⟨g1', o1', e1, cy⟩ := H3.out.1.cellAt hz
            simp only [Option.some.injEq, Addr.mk.injEq] at e1
            obtain ⟨rfl, rfl, _⟩ := e1
            have hNz := H2.out.2.1.2 k z hz
            have hzn : (z : Int) < (n : Int) := Int.ofNat_lt.2 hNz.1
            have hz0 : (0 : Int) ≤ (z : Int) := by omega
            obtain ⟨bl2, off2, e2, hc⟩ := HJ.out (by omega)
            simp only [Option.some.injEq, Addr.mk.injEq] at e2
            obtain ⟨rfl, rfl, _⟩ := e2
            have cu := ((hc z hNz.1).keep (H3.out.2.1.block bl (hc z hNz.1).lt)).c1
            have HF := Lib.hid H3.out.1
            have HB := Lib.hid H3.out.2.1
            have HK := Lib.hid H3.out.2.2.1
            have HZ := Lib.hid (show _ ∧ _ from ⟨hz, hNz⟩)
            clear hz hNz hc
            have hrng := num_range (Par.mk (v4 u0 u1 u2 u3) nh h n js) hwh (l.take i) (js z).user
            obtain ⟨xn, hxn⟩ : ∃ v, Hid (num (Par.mk (v4 u0 u1 u2 u3) nh h n js) (l.take i) (js z).user = v) := ⟨_, Lib.hid rfl⟩
            obtain ⟨xd, hxd⟩ : ∃ v, Hid (den (Par.mk (v4 u0 u1 u2 u3) nh h n js) (l.take i) (js z).user = v) := ⟨_, Lib.hid rfl⟩
            rw [hxn.out, hxd.out] at hrng
            obtain ⟨hr1, hr2⟩ := hrng
            have hnr : ∀ q, now (Par.mk (v4 u0 u1 u2 u3) nh h n js) (l.take i) (js z).user q ≤ 9223372036854775807 := fun q => Int.le_trans (now_range (P := (Par.mk (v4 u0 u1 u2 u3) nh h n js)) (l.take i) (js z).user q).2 (by unfold most; omega)
            have CD := Lib.hid (fun W => rdominant_any (now (Par.mk (v4 u0 u1 u2 u3) nh h n js) (l.take i) (js z).user 0) (now (Par.mk (v4 u0 u1 u2 u3) nh h n js) (l.take i) (js z).user 1) (now (Par.mk (v4 u0 u1 u2 u3) nh h n js) (l.take i) (js z).user 2) (now (Par.mk (v4 u0 u1 u2 u3) nh h n js) (l.take i) (js z).user 3) u0 u1 u2 u3 (hnr 0) (hnr 1) (hnr 2) (hnr 3) HU.out.1.2 HU.out.2.1.2 HU.out.2.2.1.2 HU.out.2.2.2.2 W)
            have eN : (Shr.dom (Shr.four (now (Par.mk (v4 u0 u1 u2 u3) nh h n js) (l.take i) (js z).user 0) (now (Par.mk (v4 u0 u1 u2 u3) nh h n js) (l.take i) (js z).user 1) (now (Par.mk (v4 u0 u1 u2 u3) nh h n js) (l.take i) (js z).user 2) (now (Par.mk (v4 u0 u1 u2 u3) nh h n js) (l.take i) (js z).user 3)) (Shr.four u0 u1 u2 u3)).n = xn := hxn.out
            have eD : (Shr.dom (Shr.four (now (Par.mk (v4 u0 u1 u2 u3) nh h n js) (l.take i) (js z).user 0) (now (Par.mk (v4 u0 u1 u2 u3) nh h n js) (l.take i) (js z).user 1) (now (Par.mk (v4 u0 u1 u2 u3) nh h n js) (l.take i) (js z).user 2) (now (Par.mk (v4 u0 u1 u2 u3) nh h n js) (l.take i) (js z).user 3)) (Shr.four u0 u1 u2 u3)).d = xd := hxd.out
            rw [eN, eD] at CD
            have CH := Lib.hid (fun (W : World) (hW : Below wr.heap.size wr W) => rhas_any (w := W) (js z).user A1 nh k1 h (some ⟨bl, off, none⟩) n k2 js (some ⟨g1, o1, none⟩) i c (l.take i) ((HH.out.keep HB.out).keep hW) ((HJ.out.keep HB.out).keep hW) (((HF.out.pass hW).take (k := i) (by omega)).nums) (by rw [List.length_take, ← hlen.out]; omega) (fun x hx => HT.out.2.lt x (List.mem_of_mem_take hx)) (by omega) (by omega) (by omega))
            have eH : vecV (hasT (js z).user js (hasB (js z).user h nh) (l.take i)) = vecV (now (Par.mk (v4 u0 u1 u2 u3) nh h n js) (l.take i) (js z).user) := rfl
            rw [eH] at CH
            unfold vecV at CH
            obtain ⟨x0, hx0⟩ : ∃ v, Hid (now (Par.mk (v4 u0 u1 u2 u3) nh h n js) (l.take i) (js z).user 0 = v) := ⟨_, Lib.hid rfl⟩
            obtain ⟨x1, hx1⟩ : ∃ v, Hid (now (Par.mk (v4 u0 u1 u2 u3) nh h n js) (l.take i) (js z).user 1 = v) := ⟨_, Lib.hid rfl⟩
            obtain ⟨x2, hx2⟩ : ∃ v, Hid (now (Par.mk (v4 u0 u1 u2 u3) nh h n js) (l.take i) (js z).user 2 = v) := ⟨_, Lib.hid rfl⟩
            obtain ⟨x3, hx3⟩ : ∃ v, Hid (now (Par.mk (v4 u0 u1 u2 u3) nh h n js) (l.take i) (js z).user 3 = v) := ⟨_, Lib.hid rfl⟩
            rw [hx0.out, hx1.out, hx2.out, hx3.out] at CD CH
            obtain ⟨qa, hqa⟩ : ∃ v, Hid ((Shr.dom (Shr.four x0 x1 x2 x3) (Shr.four u0 u1 u2 u3)).at_ = v) := ⟨_, Lib.hid rfl⟩
            rw [hqa.out] at CD
            clear eN eD eH hnr
            obtain ⟨bx, hbx⟩ : ∃ v, Hid ((js z).user = v) := ⟨_, Lib.hid rfl⟩
            rw [hbx.out] at CH cu
            have A0 : ∀ o, (wr.alloc o).cell? ⟨bl, off + z * 7 + 1, none⟩ = some (encStr bx) := fun o => keep_alloc cu
            have A1' : ∀ o, (wr.alloc o).cell? ⟨g1, o1 + k, none⟩ = some (.int .i64 (z : Int)) := fun o => keep_alloc cy
            have kc0 : wr.cell? ⟨w.heap.size, 0, none⟩ = some (.int .i64 u0) := HK.out.cell rfl
            have kc1 : wr.cell? ⟨w.heap.size, 1, none⟩ = some (.int .i64 u1) := HK.out.cell rfl
            have kc2 : wr.cell? ⟨w.heap.size, 2, none⟩ = some (.int .i64 u2) := HK.out.cell rfl
            have kc3 : wr.cell? ⟨w.heap.size, 3, none⟩ = some (.int .i64 u3) := HK.out.cell rfl
            have ka0 := fun o => keep_alloc (o := o) kc0
            have ka1 := fun o => keep_alloc (o := o) kc1
            have ka2 := fun o => keep_alloc (o := o) kc2
            have ka3 := fun o => keep_alloc (o := o) kc3
            go_upto_region 16 with fail
            go_cut [13] (fun s13 wx => ∃ gx, s13 = .pointer (some ⟨gx, 0, none⟩) ∧ Hid (Bk wx gx 23 #[.int .i64 xn, .int .i64 xd] ∧ wr.heap.size ≤ gx ∧ Below wr.heap.size wr wx))
            case first =>
              obtain ⟨B, hBB⟩ : ∃ B, Hid (wr.heap.size = B) := ⟨_, Lib.hid rfl⟩
              have lw : w.heap.size < B := by rw [← hBB.out]; exact HK.out.lt
              have lg : g1 < B := by rw [← hBB.out]; exact World.block_lt_of_cell? wr _ cy
              have lb : bl < B := by rw [← hBB.out]; exact World.block_lt_of_cell? wr _ cu
              have hst : Below wr.heap.size wr wr.drew ∧ B ≤ wr.drew.heap.size ∧ ∀ b o, b < B → wr.drew.cell? ⟨b, o, none⟩ = wr.cell? ⟨b, o, none⟩ := ⟨(Below.refl _ _).drew, by rw [← hBB.out]; exact Nat.le_refl _, fun _ _ _ => rfl⟩
              have hsta : ∀ o, Below wr.heap.size wr (wr.alloc o).drew ∧ B ≤ (wr.alloc o).drew.heap.size ∧ ∀ b q, b < B → (wr.alloc o).drew.cell? ⟨b, q, none⟩ = wr.cell? ⟨b, q, none⟩ := fun o => ⟨((Below.refl _ _).alloc (Nat.le_refl _) _).drew, by rw [← hBB.out]; simp, fun b q hb => World.cell?_of_block (Below.heap_alloc wr o b (by rw [hBB.out]; exact hb))⟩
              go_region_held3 (fun w' => Below wr.heap.size wr w' ∧ B ≤ w'.heap.size ∧ ∀ b o, b < B → w'.cell? ⟨b, o, none⟩ = wr.cell? ⟨b, o, none⟩) (first | exact hst | exact hsta _ | assumption | exact keepW (by assumption) (by first | exact hst | exact hsta _ | assumption | exact keepW (by assumption) (by first | exact hst | exact hsta _ | assumption | exact keepWa (by first | exact hst | exact hsta _ | assumption))) | exact keepWa (by first | exact hst | exact hsta _ | assumption | exact keepW (by assumption) (by first | exact hst | exact hsta _ | assumption | exact keepW (by assumption) (by first | exact hst | exact hsta _ | assumption | exact keepWa (by first | exact hst | exact hsta _ | assumption)))) | (refine keepWs (keepWs (by first | exact hst | exact hsta _ | assumption | exact keepW (by assumption) (by first | exact hst | exact hsta _ | assumption | exact keepW (by assumption) (by first | exact hst | exact hsta _ | assumption | exact keepWa (by first | exact hst | exact hsta _ | assumption)))) ?_ ?_) ?_ ?_ <;> (have hBo := hBB.out; dsimp only; omega))) (first | (go_at_call 32; refine (CH.out _ (And.left (by assumption))).mono ?_; rintro e w3 ⟨rfl, hb⟩; have hsz3 : B ≤ w3.heap.size := (by first | exact Nat.le_trans (Nat.le_of_eq hBB.out.symm) hb.size | exact Nat.le_trans (by rw [← hBB.out]; simp) hb.size); first | (have q := (Bk.new wr 23 #[.int .i64 0, .int .i64 0]).drew.pass hb) | skip) | (go_at_call 20; refine (CD.out _).mono ?_; rintro e w4 ⟨rfl, hb4⟩; first | (have q4 := q.pass hb4; have q0 := q4.cell (i := 0) rfl; have q1 := q4.cell (i := 1) rfl; have f0 := q4.free 0; have f1 := q4.free 1) | (have q4 := (Bk.new w3 23 #[.int .i64 0, .int .i64 0]).pass hb4; have q0 := q4.cell (i := 0) rfl; have q1 := q4.cell (i := 1) rfl; have f0 := q4.free 0; have f1 := q4.free 1) | skip))
              all_goals
                go_wp2_with fail
                go_meet
                have hBo := hBB.out
                first
                | exact ⟨wr.heap.size, rfl, Lib.hid ⟨(q4.set 0 _).set 1 _, Nat.le_refl _, And.left (by assumption)⟩⟩
                | exact ⟨w3.heap.size, rfl, Lib.hid ⟨(q4.set 0 _).set 1 _, by omega, And.left (by assumption)⟩⟩
                | exact ⟨w4.heap.size, rfl, Lib.hid ⟨Bk.new w4 _ _, by have := hb4.size; omega, And.left (by assumption)⟩⟩
                | exact ⟨w4.heap.size, rfl, Lib.hid ⟨Bk.new w4 _ _, by have := hb4.size; omega, And.left (keepWa (keepW hb4 (by assumption)))⟩⟩
            case rest =>
              obtain ⟨gy, rfl, HY2⟩ := hcut
              have KS := H3.out.2.2.2.pass HY2.out.2.2
              have s0 : wc.cell? ⟨gx, 0, none⟩ = some (.int .i64 sn) := KS.cell rfl
              have s1 : wc.cell? ⟨gx, 1, none⟩ = some (.int .i64 sd) := KS.cell rfl
              have t0 : wc.cell? ⟨gy, 0, none⟩ = some (.int .i64 xn) := HY2.out.1.cell rfl
              have t1 : wc.cell? ⟨gy, 1, none⟩ = some (.int .i64 xd) := HY2.out.1.cell rfl
              have C3 := Lib.hid (fun W => rcompare_all xn xd sn sd hr1 hr2 hs1 hs2 W)
              obtain ⟨r, hr⟩ : ∃ v, Hid (Shr.cmp xn xd sn sd = v) := ⟨_, Lib.hid rfl⟩
              rw [hr.out] at C3
              have hge : ¬ r < 0 := by
                have hl := HY.out.2.2.2 z (show z < n by omega) (fun c => HZ.out.2.2.1 (by
                  have e3 : l.take i = (l.take k).take i := by rw [List.take_take, Nat.min_eq_left (by omega)]
                  rw [e3] at c
                  exact List.mem_of_mem_take c)) (fun c => by
                  have hnd := H2.out.2.1.2.nodup
                  obtain ⟨h1, e1⟩ := List.getElem?_eq_some_iff.1 HZ.out.1
                  obtain ⟨h2, e2⟩ := List.getElem?_eq_some_iff.1 HY.out.1
                  have := (List.getElem_inj hnd).1 (e1.trans (c.trans e2.symm))
                  omega)
                have hsw := Shr.cmp_swap sn sd xn xd
                rcases hl with ⟨_, hl⟩ | ⟨hl, _⟩
                · unfold cmpU at hl
                  have hl : Shr.cmp (num (Par.mk (v4 u0 u1 u2 u3) nh h n js) (l.take i) (js y).user) (den (Par.mk (v4 u0 u1 u2 u3) nh h n js) (l.take i) (js y).user) (num (Par.mk (v4 u0 u1 u2 u3) nh h n js) (l.take i) (js z).user) (den (Par.mk (v4 u0 u1 u2 u3) nh h n js) (l.take i) (js z).user) < 0 ∨ (Shr.cmp (num (Par.mk (v4 u0 u1 u2 u3) nh h n js) (l.take i) (js y).user) (den (Par.mk (v4 u0 u1 u2 u3) nh h n js) (l.take i) (js y).user) (num (Par.mk (v4 u0 u1 u2 u3) nh h n js) (l.take i) (js z).user) (den (Par.mk (v4 u0 u1 u2 u3) nh h n js) (l.take i) (js z).user) = 0 ∧ _) := hl
                  rw [hsn.out, hsd.out, hxn.out, hxd.out] at hl
                  have := hr.out
                  omega
                · have hl : (js y).user = (js z).user := hl
                  have h1 := hsn.out
                  have h2 := hsd.out
                  rw [hl, hxn.out] at h1
                  rw [hl, hxd.out] at h2
                  have h3 := Shr.cmp_self xn xd
                  have := hr.out
                  rw [← h1, ← h2] at this
                  omega
              have HN := Lib.hid (show _ ∧ _ ∧ _ ∧ _ from ⟨HF.out.pass HY2.out.2.2, below_pass HB.out HB.out.size HY2.out.2.2, HK.out.pass HY2.out.2.2, KS⟩)
              clear cy cu kc0 kc1 kc2 kc3 ka0 ka1 ka2 ka3 A0 A1' CD CH KS
              go_wp2_with fail
              refine (C3.out _).mono ?_
              rintro e w5 ⟨rfl, hb5⟩
              have HN5 := Lib.hid (show _ ∧ _ ∧ _ ∧ _ from ⟨HN.out.1.pass hb5, below_pass HN.out.2.1 HN.out.2.1.size hb5, HN.out.2.2.1.pass hb5, HN.out.2.2.2.pass hb5⟩)
              clear hb5
              go_wp2_with fail
              go_roundg (n - (k + 1))
              case measure => omega
              case rel => exact ⟨k + 1, by omega, by omega, rfl, by go_num, HN5⟩
          · obtain rfl : n = k := by omega
            have HN := Lib.hid (show _ ∧ _ ∧ _ from ⟨H3.out.1, H3.out.2.1, H3.out.2.2.1⟩)
            go_wp2_with fail
            go_roundg (n - (i + 1))
            case measure => omega
            case rel => exact ⟨i + 1, by omega, rfl, by go_num, HN⟩
    · obtain rfl : n = i := by omega
      go_wp2_with fail
      go_ret
      exact ⟨rfl, H.out.2.1⟩
end Go.Proofs.Ytnjgkgnjbmfpfaa
