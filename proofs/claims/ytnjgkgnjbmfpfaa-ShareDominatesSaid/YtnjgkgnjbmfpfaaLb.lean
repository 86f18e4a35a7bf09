/- The walk of the law ShareDominates. -/
import Derived.Test.YtnjgkgnjbmfpfaaWg
import Derived.Test.YtnjgkgnjbmfpfaaRow
namespace Go.Proofs.Ytnjgkgnjbmfpfaa
open Go.RowKit Go.Shelf

set_option maxHeartbeats 1000000 in
theorem walk_ShareDominates (h0 h1 h2 h3 u0 u1 u2 u3 : Int) (lh0 : In64 h0) (lh1 : In64 h1) (lh2 : In64 h2) (lh3 : In64 h3) (lu0 : In64 u0) (lu1 : In64 u1) (lu2 : In64 u2) (lu3 : In64 u3) (w : World) :
    Calls Try.prog 4 #[.agg #[.int .i64 h0, .int .i64 h1, .int .i64 h2, .int .i64 h3], .agg #[.int .i64 u0, .int .i64 u1, .int .i64 u2, .int .i64 u3]] w fun e w' => e = .returned (.bool true) ∧ Below w.heap.size w w' := by
  have C1 := Lib.hid (fun w => dominant_any h0 h1 h2 h3 u0 u1 u2 u3 lh0.2 lh1.2 lh2.2 lh3.2 lu0.2 lu1.2 lu2.2 lu3.2 w)
  have C2 := Lib.hid (fun w => rdominant_any h0 h1 h2 h3 u0 u1 u2 u3 lh0.2 lh1.2 lh2.2 lh3.2 lu0.2 lu1.2 lu2.2 lu3.2 w)
  generalize Shr.dom (Shr.four h0 h1 h2 h3) (Shr.four u0 u1 u2 u3) = D at C1 C2
  obtain ⟨n, d, p⟩ := D
  simp only at C1 C2
  clear lh0 lh1 lh2 lh3 lu0 lu1 lu2 lu3
  go_enter Try.func4, Try.ntmps4
  go_wp2_with fail
  refine (awake_any _).mono ?_
  rintro e w1 ⟨rfl, hb1⟩
  have x := ((Bk.new w 28 #[.int .i64 h0, .int .i64 h1, .int .i64 h2, .int .i64 h3]).alloc (.cells #[.int .i64 u0, .int .i64 u1, .int .i64 u2, .int .i64 u3] 28)).pass hb1
  have y := (Bk.newAt (t := 28) (cs := #[.int .i64 u0, .int .i64 u1, .int .i64 u2, .int .i64 u3]) (g := w.heap.size + 1) (W := w.alloc (.cells #[.int .i64 h0, .int .i64 h1, .int .i64 h2, .int .i64 h3] 28)) (by simp)).pass hb1
  have hB := below_pass (((Below.refl w.heap.size w).alloc (Nat.le_refl _) (.cells #[.int .i64 h0, .int .i64 h1, .int .i64 h2, .int .i64 h3] 28)).alloc (by simp) (.cells #[.int .i64 u0, .int .i64 u1, .int .i64 u2, .int .i64 u3] 28)) (by simp; omega) hb1
  clear hb1
  have xc0 : w1.cell? ⟨w.heap.size, 0, none⟩ = some (.int .i64 h0) := x.cell rfl
  have xc1 : w1.cell? ⟨w.heap.size, 1, none⟩ = some (.int .i64 h1) := x.cell rfl
  have xc2 : w1.cell? ⟨w.heap.size, 2, none⟩ = some (.int .i64 h2) := x.cell rfl
  have xc3 : w1.cell? ⟨w.heap.size, 3, none⟩ = some (.int .i64 h3) := x.cell rfl
  have yc0 : w1.cell? ⟨(w.heap.size + 1), 0, none⟩ = some (.int .i64 u0) := y.cell rfl
  have yc1 : w1.cell? ⟨(w.heap.size + 1), 1, none⟩ = some (.int .i64 u1) := y.cell rfl
  have yc2 : w1.cell? ⟨(w.heap.size + 1), 2, none⟩ = some (.int .i64 u2) := y.cell rfl
  have yc3 : w1.cell? ⟨(w.heap.size + 1), 3, none⟩ = some (.int .i64 u3) := y.cell rfl
  go_wp2_with fail
  refine (C1.out _).mono ?_
  rintro e w2 ⟨rfl, hb2⟩
  have x := x.pass hb2
  have y := y.pass hb2
  have hB := below_pass hB hB.size hb2
  clear xc0 xc1 xc2 xc3 yc0 yc1 yc2 yc3 hb2
  have xc0 : w2.cell? ⟨w.heap.size, 0, none⟩ = some (.int .i64 h0) := x.cell rfl
  have xc1 : w2.cell? ⟨w.heap.size, 1, none⟩ = some (.int .i64 h1) := x.cell rfl
  have xc2 : w2.cell? ⟨w.heap.size, 2, none⟩ = some (.int .i64 h2) := x.cell rfl
  have xc3 : w2.cell? ⟨w.heap.size, 3, none⟩ = some (.int .i64 h3) := x.cell rfl
  have yc0 : w2.cell? ⟨(w.heap.size + 1), 0, none⟩ = some (.int .i64 u0) := y.cell rfl
  have yc1 : w2.cell? ⟨(w.heap.size + 1), 1, none⟩ = some (.int .i64 u1) := y.cell rfl
  have yc2 : w2.cell? ⟨(w.heap.size + 1), 2, none⟩ = some (.int .i64 u2) := y.cell rfl
  have yc3 : w2.cell? ⟨(w.heap.size + 1), 3, none⟩ = some (.int .i64 u3) := y.cell rfl
  have xk0 := keep_alloc (o := .cells #[.int .i64 n, .int .i64 d] 23) xc0
  have xk1 := keep_alloc (o := .cells #[.int .i64 n, .int .i64 d] 23) xc1
  have xk2 := keep_alloc (o := .cells #[.int .i64 n, .int .i64 d] 23) xc2
  have xk3 := keep_alloc (o := .cells #[.int .i64 n, .int .i64 d] 23) xc3
  have yk0 := keep_alloc (o := .cells #[.int .i64 n, .int .i64 d] 23) yc0
  have yk1 := keep_alloc (o := .cells #[.int .i64 n, .int .i64 d] 23) yc1
  have yk2 := keep_alloc (o := .cells #[.int .i64 n, .int .i64 d] 23) yc2
  have yk3 := keep_alloc (o := .cells #[.int .i64 n, .int .i64 d] 23) yc3
  go_wp2_with fail
  refine (C2.out _).mono ?_
  rintro e w3 ⟨rfl, hb3⟩
  have z := (Bk.new w2 23 #[.int .i64 n, .int .i64 d]).pass hb3
  have hB := below_pass (hB.alloc hB.size (.cells #[.int .i64 n, .int .i64 d] 23)) (by have := hB.size; simp; omega) hb3
  clear xc0 xc1 xc2 xc3 yc0 yc1 yc2 yc3 hb3 xk0 xk1 xk2 xk3 yk0 yk1 yk2 yk3
  have zc0 : w3.cell? ⟨w2.heap.size, 0, none⟩ = some (.int .i64 n) := z.cell rfl
  have zc1 : w3.cell? ⟨w2.heap.size, 1, none⟩ = some (.int .i64 d) := z.cell rfl
  have zk0 := keep_alloc (o := .cells #[.int .i64 n, .int .i64 d] 23) zc0
  have zk1 := keep_alloc (o := .cells #[.int .i64 n, .int .i64 d] 23) zc1
  go_wp2_with fail
  go_ret
  exact ⟨rfl, hB.alloc hB.size _⟩

end Go.Proofs.Ytnjgkgnjbmfpfaa
