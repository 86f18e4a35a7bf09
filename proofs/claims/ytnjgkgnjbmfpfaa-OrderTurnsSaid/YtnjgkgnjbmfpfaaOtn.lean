/- Walk of OrderTurns. -/
import Derived.Test.YtnjgkgnjbmfpfaaOrt
import Derived.Test.YtnjgkgnjbmfpfaaOfi
namespace Go.Proofs.Ytnjgkgnjbmfpfaa
open Go.RowKit Go.Maps Go.Sort Ot

set_option maxRecDepth 100000 in
set_option maxHeartbeats 8000000 in
theorem walk_OrderTurns (u0 u1 u2 u3 : Int) (A1 : Option Addr) (nh k1 : Nat) (A2 : Option Addr) (n k2 : Nat) (hu : In64 u0 ∧ In64 u1 ∧ In64 u2 ∧ In64 u3) {w : World} (hh : ∃ f, UsesIn w A1 nh f) (hj : ∃ f, WantsIn w A2 n f) :
    Calls Try.prog 14 #[.agg #[.int .i64 u0, .int .i64 u1, .int .i64 u2, .int .i64 u3], .slice A1 nh k1, .slice A2 n k2] w fun e w' => e = .returned (.bool true) ∧ Below w.heap.size w w' := by
  obtain ⟨h, hh⟩ := hh
  obtain ⟨js, hj⟩ := hj
  have HU := Lib.hid hu
  have HH := Lib.hid hh
  have HJ := Lib.hid hj
  clear hh hj hu
  go_enter Try.func14, Try.ntmps14
  go_wp2_with fail
  refine (awake_any _).mono ?_
  rintro e w1 ⟨rfl, B1⟩
  have K3 : Bk w1 w.heap.size 28 #[.int .i64 u0, .int .i64 u1, .int .i64 u2, .int .i64 u3] := (Bk.new w _ _).pass B1
  have HB1 := Lib.hid (((Below.refl w.heap.size w).alloc (Nat.le_refl _) _).trans (B1.mono (by simp)))
  clear B1
  have c0 : w1.cell? ⟨w.heap.size, 0, none⟩ = some (.int .i64 u0) := K3.cell rfl
  have c1 : w1.cell? ⟨w.heap.size, 1, none⟩ = some (.int .i64 u1) := K3.cell rfl
  have c2 : w1.cell? ⟨w.heap.size, 2, none⟩ = some (.int .i64 u2) := K3.cell rfl
  have c3 : w1.cell? ⟨w.heap.size, 3, none⟩ = some (.int .i64 u3) := K3.cell rfl
  by_cases hb1 : 40 < nh
  · have hb1' : (40 : Int) < (nh : Int) := by omega
    go_wp2_with fail
    go_ret
    exact ⟨rfl, HB1.out⟩
  by_cases hb2 : 30 < n
  · have hb1' : (nh : Int) ≤ 40 := by omega
    have hb2' : (30 : Int) < (n : Int) := by omega
    go_wp2_with fail
    go_ret
    exact ⟨rfl, HB1.out⟩
  have hb1' : (nh : Int) ≤ 40 := by omega
  have hb2' : (n : Int) ≤ 30 := by omega
  have C := Lib.hid (turns_raw u0 u1 u2 u3 HU.out A1 nh k1 h A2 n k2 js (HH.out.keep HB1.out) (HJ.out.keep HB1.out) (by omega) (by omega))
  go_wp2_with fail
  refine C.out.mono ?_
  rintro e w2 ⟨A, c, l, rfl, hF, hT, B2⟩
  have H2 := Lib.hid (show _ ∧ _ ∧ _ ∧ _ from ⟨hF, hT, below_pass HB1.out HB1.out.size B2, K3.pass B2⟩)
  clear hF hT B2 C K3 c0 c1 c2 c3
  have c0 : w2.cell? ⟨w.heap.size, 0, none⟩ = some (.int .i64 u0) := H2.out.2.2.2.cell rfl
  have c1 : w2.cell? ⟨w.heap.size, 1, none⟩ = some (.int .i64 u1) := H2.out.2.2.2.cell rfl
  have c2 : w2.cell? ⟨w.heap.size, 2, none⟩ = some (.int .i64 u2) := H2.out.2.2.2.cell rfl
  have c3 : w2.cell? ⟨w.heap.size, 3, none⟩ = some (.int .i64 u3) := H2.out.2.2.2.cell rfl
  have C2 := Lib.hid (rturns_any u0 u1 u2 u3 HU.out A1 nh k1 h A2 n k2 js (HH.out.keep H2.out.2.2.1) (HJ.out.keep H2.out.2.2.1) (by omega) (by omega))
  go_wp2_with fail
  refine C2.out.mono ?_
  rintro e w3 ⟨B, d, l', rfl, hF, hT, B3⟩
  have hll : l' = l := hT.2.unique H2.out.2.1.2 (hT.1.trans H2.out.2.1.1.symm)
  subst hll
  have H3 := Lib.hid (show _ ∧ _ ∧ _ ∧ _ from ⟨H2.out.1.pass B3, hF, below_pass H2.out.2.2.1 H2.out.2.2.1.size B3, H2.out.2.2.2.pass B3⟩)
  clear hF hT B3 C2 c0 c1 c2 c3
  have c0 : w3.cell? ⟨w.heap.size, 0, none⟩ = some (.int .i64 u0) := H3.out.2.2.2.cell rfl
  have c1 : w3.cell? ⟨w.heap.size, 1, none⟩ = some (.int .i64 u1) := H3.out.2.2.2.cell rfl
  have c2 : w3.cell? ⟨w.heap.size, 2, none⟩ = some (.int .i64 u2) := H3.out.2.2.2.cell rfl
  have c3 : w3.cell? ⟨w.heap.size, 3, none⟩ = some (.int .i64 u3) := H3.out.2.2.2.cell rfl
  have C3 := Lib.hid (first_any u0 u1 u2 u3 HU.out A1 nh k1 h A2 n k2 js (HH.out.keep H3.out.2.2.1) (HJ.out.keep H3.out.2.2.1) (by omega) (by omega))
  go_wp2_with fail
  refine C3.out.mono ?_
  intro e w4 hS
  obtain ⟨B4, l2, hT2, hS⟩ := hS
  have hl2 : l2 = l' := hT2.2.unique H2.out.2.1.2 (hT2.1.trans H2.out.2.1.1.symm)
  subst hl2
  have hlen := H3.out.1.len
  have HB4 := Lib.hid (below_pass H3.out.2.2.1 H3.out.2.2.1.size B4)
  rcases hS with ⟨hl, rfl⟩ | ⟨x, t, hl, rfl⟩
  · obtain rfl : n = 0 := by rw [hlen, hl]; rfl
    clear hlen hT2 B4 c0 c1 c2 c3 C3
    go_wp2_with fail
    go_ret
    exact ⟨rfl, HB4.out⟩
  · have hx : l2[0]? = some x := by rw [hl]; rfl
    have H4 := Lib.hid (show _ ∧ _ from ⟨H3.out.1.pass B4, H3.out.2.1.pass B4⟩)
    obtain ⟨g, o, rfl, cx⟩ := H4.out.2.cellAt hx
    rw [Nat.add_zero] at cx
    have hn0 : ((n : Int) == 0) = false := by have : 0 < n := (by rw [hlen, hl]; simp); simp; omega
    have hn1 : (0 : Int) < (n : Int) := by have : 0 < n := (by rw [hlen, hl]; simp); omega
    have CS := Lib.hid (same_any A (some ⟨g, o, none⟩) n c d (fun j => ((l2.getD j 0 : Nat) : Int)) (by omega) w4 H4.out.1.nums H4.out.2.nums)
    clear hlen hT2 B4 c0 c1 c2 c3 C3 hx hl
    go_wp2_with fail
    refine CS.out.mono ?_
    rintro e w5 ⟨rfl, B5⟩
    have cx5 := keep_below cx B5
    have HB5 := Lib.hid (below_pass HB4.out HB4.out.size B5)
    clear cx B5
    go_wp2_with fail
    go_ret
    exact ⟨by simp, HB5.out⟩
end Go.Proofs.Ytnjgkgnjbmfpfaa
