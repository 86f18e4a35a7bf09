/- The walk of LifeNexts. -/
import Derived.Test.YtmpggfcceepccaaDoorWt
namespace Go.Proofs.YtmpggfcceepccaaDoor
open Go.RowKit

set_option maxHeartbeats 1000000 in
theorem walk_LifeNexts (s a l : Int) (x y : Bool) (g : Int) (_hs : -9223372036854775808 ≤ s ∧ s ≤ 9223372036854775807) (ha : -9223372036854775808 ≤ a ∧ a ≤ 9223372036854775807) (_hl : -9223372036854775808 ≤ l ∧ l ≤ 9223372036854775807) (_hg : -9223372036854775808 ≤ g ∧ g ≤ 9223372036854775807) {w : World} (hN : Nms w) : Calls Tryd.prog 3 #[.agg #[.int .i64 s, .int .i64 a, .int .i64 l, .bool x, .bool y], .int .i64 g] w fun e w' => e = .returned (.bool true) ∧ Below w.heap.size w w' := by
  obtain ⟨q, hq⟩ : ∃ q, Hid (Lif.next ⟨s, a, l, x, y⟩ g = q) := ⟨_, Lib.hid rfl⟩
  obtain ⟨⟨qs, qa, ql, qx, qy⟩, qe⟩ := q
  have C1 := Lib.hid (fun w => next_any s a l x y g ha _ hq.out w)
  have C2 := Lib.hid (fun w => refNext_any s a l x y g _ hq.out w)
  have hN0 := Lib.hid (hN.pass (below1 w (.cells #[.int .i64 s, .int .i64 a, .int .i64 l, .bool x, .bool y] 24)))
  clear hN hq
  go_enter Tryd.func3, Tryd.ntmps3
  go_wp2_with fail
  refine (awake_any _ hN0.out).mono ?_
  rintro e w1 ⟨rfl, hb1⟩
  have B1 := below_pass (below1 w (.cells #[.int .i64 s, .int .i64 a, .int .i64 l, .bool x, .bool y] 24)) (by simp) hb1
  have K1 := (Bk.new w 24 #[.int .i64 s, .int .i64 a, .int .i64 l, .bool x, .bool y]).pass hb1
  have c0 := K1.cell (i := 0) rfl
  have c1 := K1.cell (i := 1) rfl
  have c2 := K1.cell (i := 2) rfl
  have c3 := K1.cell (i := 3) rfl
  have c4 := K1.cell (i := 4) rfl
  go_wp2_with fail
  refine (C1.out _).mono ?_
  rintro e w2 ⟨rfl, hb2⟩
  have B2 := below_pass B1 B1.size hb2
  have K2 := (K1.pass hb2).alloc (.cells #[.int .i64 qs, .int .i64 qa, .int .i64 ql, .bool qx, .bool qy] 24)
  have M2 := Bk.new w2 24 #[.int .i64 qs, .int .i64 qa, .int .i64 ql, .bool qx, .bool qy]
  have B2a := B2.alloc B2.size (.cells #[.int .i64 qs, .int .i64 qa, .int .i64 ql, .bool qx, .bool qy] 24)
  have d0 := K2.cell (i := 0) rfl
  have d1 := K2.cell (i := 1) rfl
  have d2 := K2.cell (i := 2) rfl
  have d3 := K2.cell (i := 3) rfl
  have d4 := K2.cell (i := 4) rfl
  go_wp2_with fail
  refine (C2.out _).mono ?_
  rintro e w3 ⟨rfl, hb3⟩
  have B3 := below_pass B2a B2a.size hb3
  have M3 := (M2.pass hb3).alloc (.cells #[.int .i64 qs, .int .i64 qa, .int .i64 ql, .bool qx, .bool qy] 24)
  have B3a := B3.alloc B3.size (.cells #[.int .i64 qs, .int .i64 qa, .int .i64 ql, .bool qx, .bool qy] 24)
  have e0 := M3.cell (i := 0) rfl
  have e1 := M3.cell (i := 1) rfl
  have e2 := M3.cell (i := 2) rfl
  have e3 := M3.cell (i := 3) rfl
  have e4 := M3.cell (i := 4) rfl
  go_wp2_with fail
  go_ret
  exact ⟨rfl, B3a⟩
end Go.Proofs.YtmpggfcceepccaaDoor
