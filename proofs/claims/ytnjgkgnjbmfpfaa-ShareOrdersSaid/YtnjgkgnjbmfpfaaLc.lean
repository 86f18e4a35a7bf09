/- The walk of the law ShareOrders: the order of shares goes through; turned about it is turned. -/
import Derived.Test.YtnjgkgnjbmfpfaaWg
import Derived.Test.YtnjgkgnjbmfpfaaRow
namespace Go.Proofs.Ytnjgkgnjbmfpfaa
open Go.RowKit Go.Shelf

set_option maxHeartbeats 2000000 in
theorem walk_ShareOrders (a0 a1 b0 b1 c0 c1 : Int) (la0 : In64 a0) (la1 : In64 a1) (lb0 : In64 b0) (lb1 : In64 b1) (lc0 : In64 c0) (lc1 : In64 c1) (w : World) :
    Calls Try.prog 6 #[.agg #[.int .i64 a0, .int .i64 a1], .agg #[.int .i64 b0, .int .i64 b1], .agg #[.int .i64 c0, .int .i64 c1]] w fun e w' => e = .returned (.bool true) ∧ Below w.heap.size w w' := by
  have C1 := Lib.hid (fun w => compare_any a0 a1 b0 b1 la0.2 la1.2 lb0.2 lb1.2 w)
  have C2 := Lib.hid (fun w => compare_any b0 b1 c0 c1 lb0.2 lb1.2 lc0.2 lc1.2 w)
  have C3 := Lib.hid (fun w => compare_any a0 a1 c0 c1 la0.2 la1.2 lc0.2 lc1.2 w)
  have C4 := Lib.hid (fun w => compare_any b0 b1 a0 a1 lb0.2 lb1.2 la0.2 la1.2 w)
  have C5 := Lib.hid (fun w => compare_any a0 a1 a0 a1 la0.2 la1.2 la0.2 la1.2 w)
  rw [Shr.cmp_self] at C5
  have hsw := Shr.cmp_swap a0 a1 b0 b1
  rw [hsw] at C4
  clear hsw
  have hx := Shr.cmp_range a0 a1 b0 b1
  have hy := Shr.cmp_range b0 b1 c0 c1
  have hz := Shr.cmp_range a0 a1 c0 c1
  have t1 : 0 ≤ Shr.cmp a0 a1 b0 b1 → 0 ≤ Shr.cmp b0 b1 c0 c1 → 0 ≤ Shr.cmp a0 a1 c0 c1 ∧ (Shr.cmp a0 a1 c0 c1 = 0 ↔ Shr.cmp a0 a1 b0 b1 = 0 ∧ Shr.cmp b0 b1 c0 c1 = 0) := Shr.cmp_trans
  have t2 : Shr.cmp a0 a1 b0 b1 ≤ 0 → Shr.cmp b0 b1 c0 c1 ≤ 0 → Shr.cmp a0 a1 c0 c1 ≤ 0 := by
    intro h1 h2
    have h3 := Shr.cmp_trans (a := c0) (b := c1) (c := b0) (d := b1) (e := a0) (f := a1) (by rw [Shr.cmp_swap]; omega) (by rw [Shr.cmp_swap]; omega)
    have h4 := h3.1
    rw [Shr.cmp_swap] at h4
    omega
  generalize Shr.cmp a0 a1 b0 b1 = p at *
  generalize Shr.cmp b0 b1 c0 c1 = q at *
  generalize Shr.cmp a0 a1 c0 c1 = r at *
  have T1 := Lib.hid t1
  have T2 := Lib.hid t2
  clear t1 t2 la0 la1 lb0 lb1 lc0 lc1
  go_enter Try.func6, Try.ntmps6
  go_wp2_with fail
  refine (awake_any _).mono ?_
  rintro e w1 ⟨rfl, hb1⟩
  have x := (((Bk.new w 23 #[.int .i64 a0, .int .i64 a1]).alloc (.cells #[.int .i64 b0, .int .i64 b1] 23)).alloc (.cells #[.int .i64 c0, .int .i64 c1] 23)).pass hb1
  have y := ((Bk.newAt (t := 23) (cs := #[.int .i64 b0, .int .i64 b1]) (g := w.heap.size + 1) (W := w.alloc (.cells #[.int .i64 a0, .int .i64 a1] 23)) (by simp)).alloc (.cells #[.int .i64 c0, .int .i64 c1] 23)).pass hb1
  have z := (Bk.newAt (t := 23) (cs := #[.int .i64 c0, .int .i64 c1]) (g := w.heap.size + 2) (W := (w.alloc (.cells #[.int .i64 a0, .int .i64 a1] 23)).alloc (.cells #[.int .i64 b0, .int .i64 b1] 23)) (by simp)).pass hb1
  have hB := below_pass ((((Below.refl w.heap.size w).alloc (Nat.le_refl _) (.cells #[.int .i64 a0, .int .i64 a1] 23)).alloc (by simp) (.cells #[.int .i64 b0, .int .i64 b1] 23)).alloc (by simp; omega) (.cells #[.int .i64 c0, .int .i64 c1] 23)) (by simp; omega) hb1
  clear hb1
  have xc0 : w1.cell? ⟨w.heap.size, 0, none⟩ = some (.int .i64 a0) := x.cell rfl
  have xc1 : w1.cell? ⟨w.heap.size, 1, none⟩ = some (.int .i64 a1) := x.cell rfl
  have yc0 : w1.cell? ⟨(w.heap.size + 1), 0, none⟩ = some (.int .i64 b0) := y.cell rfl
  have yc1 : w1.cell? ⟨(w.heap.size + 1), 1, none⟩ = some (.int .i64 b1) := y.cell rfl
  have zc0 : w1.cell? ⟨(w.heap.size + 2), 0, none⟩ = some (.int .i64 c0) := z.cell rfl
  have zc1 : w1.cell? ⟨(w.heap.size + 2), 1, none⟩ = some (.int .i64 c1) := z.cell rfl
  go_wp2_with fail
  refine (C1.out _).mono ?_
  rintro e w2 ⟨rfl, hb2⟩
  have x := x.pass hb2
  have y := y.pass hb2
  have z := z.pass hb2
  have hB := below_pass hB hB.size hb2
  clear xc0 xc1 yc0 yc1 zc0 zc1 hb2
  have xc0 : w2.cell? ⟨w.heap.size, 0, none⟩ = some (.int .i64 a0) := x.cell rfl
  have xc1 : w2.cell? ⟨w.heap.size, 1, none⟩ = some (.int .i64 a1) := x.cell rfl
  have yc0 : w2.cell? ⟨(w.heap.size + 1), 0, none⟩ = some (.int .i64 b0) := y.cell rfl
  have yc1 : w2.cell? ⟨(w.heap.size + 1), 1, none⟩ = some (.int .i64 b1) := y.cell rfl
  have zc0 : w2.cell? ⟨(w.heap.size + 2), 0, none⟩ = some (.int .i64 c0) := z.cell rfl
  have zc1 : w2.cell? ⟨(w.heap.size + 2), 1, none⟩ = some (.int .i64 c1) := z.cell rfl
  go_wp2_with fail
  refine (C2.out _).mono ?_
  rintro e w3 ⟨rfl, hb3⟩
  have x := x.pass hb3
  have y := y.pass hb3
  have z := z.pass hb3
  have hB := below_pass hB hB.size hb3
  clear xc0 xc1 yc0 yc1 zc0 zc1 hb3
  have xc0 : w3.cell? ⟨w.heap.size, 0, none⟩ = some (.int .i64 a0) := x.cell rfl
  have xc1 : w3.cell? ⟨w.heap.size, 1, none⟩ = some (.int .i64 a1) := x.cell rfl
  have yc0 : w3.cell? ⟨(w.heap.size + 1), 0, none⟩ = some (.int .i64 b0) := y.cell rfl
  have yc1 : w3.cell? ⟨(w.heap.size + 1), 1, none⟩ = some (.int .i64 b1) := y.cell rfl
  have zc0 : w3.cell? ⟨(w.heap.size + 2), 0, none⟩ = some (.int .i64 c0) := z.cell rfl
  have zc1 : w3.cell? ⟨(w.heap.size + 2), 1, none⟩ = some (.int .i64 c1) := z.cell rfl
  go_wp2_with fail
  refine (C3.out _).mono ?_
  rintro e w4 ⟨rfl, hb4⟩
  have x := x.pass hb4
  have y := y.pass hb4
  have z := z.pass hb4
  have hB := below_pass hB hB.size hb4
  clear xc0 xc1 yc0 yc1 zc0 zc1 hb4
  have xc0 : w4.cell? ⟨w.heap.size, 0, none⟩ = some (.int .i64 a0) := x.cell rfl
  have xc1 : w4.cell? ⟨w.heap.size, 1, none⟩ = some (.int .i64 a1) := x.cell rfl
  have yc0 : w4.cell? ⟨(w.heap.size + 1), 0, none⟩ = some (.int .i64 b0) := y.cell rfl
  have yc1 : w4.cell? ⟨(w.heap.size + 1), 1, none⟩ = some (.int .i64 b1) := y.cell rfl
  have zc0 : w4.cell? ⟨(w.heap.size + 2), 0, none⟩ = some (.int .i64 c0) := z.cell rfl
  have zc1 : w4.cell? ⟨(w.heap.size + 2), 1, none⟩ = some (.int .i64 c1) := z.cell rfl
  go_wp2_with fail
  refine (C4.out _).mono ?_
  rintro e w5 ⟨rfl, hb5⟩
  have x := x.pass hb5
  have y := y.pass hb5
  have z := z.pass hb5
  have hB := below_pass hB hB.size hb5
  clear xc0 xc1 yc0 yc1 zc0 zc1 hb5
  have xc0 : w5.cell? ⟨w.heap.size, 0, none⟩ = some (.int .i64 a0) := x.cell rfl
  have xc1 : w5.cell? ⟨w.heap.size, 1, none⟩ = some (.int .i64 a1) := x.cell rfl
  have yc0 : w5.cell? ⟨(w.heap.size + 1), 0, none⟩ = some (.int .i64 b0) := y.cell rfl
  have yc1 : w5.cell? ⟨(w.heap.size + 1), 1, none⟩ = some (.int .i64 b1) := y.cell rfl
  have zc0 : w5.cell? ⟨(w.heap.size + 2), 0, none⟩ = some (.int .i64 c0) := z.cell rfl
  have zc1 : w5.cell? ⟨(w.heap.size + 2), 1, none⟩ = some (.int .i64 c1) := z.cell rfl
  go_wp2_with fail
  refine (C5.out _).mono ?_
  rintro e w6 ⟨rfl, hb6⟩
  have x := x.pass hb6
  have y := y.pass hb6
  have z := z.pass hb6
  have hB := below_pass hB hB.size hb6
  clear xc0 xc1 yc0 yc1 zc0 zc1 hb6
  have xc0 : w6.cell? ⟨w.heap.size, 0, none⟩ = some (.int .i64 a0) := x.cell rfl
  have xc1 : w6.cell? ⟨w.heap.size, 1, none⟩ = some (.int .i64 a1) := x.cell rfl
  have yc0 : w6.cell? ⟨(w.heap.size + 1), 0, none⟩ = some (.int .i64 b0) := y.cell rfl
  have yc1 : w6.cell? ⟨(w.heap.size + 1), 1, none⟩ = some (.int .i64 b1) := y.cell rfl
  have zc0 : w6.cell? ⟨(w.heap.size + 2), 0, none⟩ = some (.int .i64 c0) := z.cell rfl
  have zc1 : w6.cell? ⟨(w.heap.size + 2), 1, none⟩ = some (.int .i64 c1) := z.cell rfl
  clear C1 C2 C3 C4 C5 x y z
  have hp : p = -1 ∨ p = 0 ∨ p = 1 := by omega
  have hq : q = -1 ∨ q = 0 ∨ q = 1 := by omega
  have T1 := T1.out
  have T2 := T2.out
  rcases hp with rfl | rfl | rfl <;> rcases hq with rfl | rfl | rfl
  all_goals
    simp at T1 T2 hx hy
    try subst T1
    go_wp2_with fail
    go_ret
    first
    | exact ⟨rfl, hB⟩
    | exact ⟨ret_bool (by simp; omega), hB⟩

end Go.Proofs.Ytnjgkgnjbmfpfaa
