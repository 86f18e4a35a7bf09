/- The document's Next. -/
import Derived.Test.YtmpggfcceepccaaDoorWo
namespace Go.Proofs.YtmpggfcceepccaaDoor
open Go.RowKit

set_option maxHeartbeats 800000 in
theorem refNext_bad (s a l : Int) (x y : Bool) (g : Int) (hR : Lif.right ⟨s, a, l, x, y⟩ = false) (w : World) :
    Calls Tryd.prog 11 #[.agg #[.int .i64 s, .int .i64 a, .int .i64 l, .bool x, .bool y], .int .i64 g] w (SaysNext (Lif.zero, 1) w) := by
  go_enter Tryd.func11, Tryd.ntmps11
  go_wp2_with fail
  refine (calls_bool (refRight_any s a l x y) hR _).mono ?_
  rintro e w1 ⟨rfl, hb1⟩
  have z1 := ((Bk.newAt (t := 24) (cs := #[.int .i64 s, .int .i64 a, .int .i64 l, .bool x, .bool y]) (g := w.heap.size) (W := w) rfl).alloc (.cells #[.int .i64 0, .int .i64 0, .int .i64 0, .bool false, .bool false] 24)).pass hb1
  have r1 := (Bk.newAt (t := 24) (cs := #[.int .i64 0, .int .i64 0, .int .i64 0, .bool false, .bool false]) (g := w.heap.size + 1) (W := w.alloc (.cells #[.int .i64 s, .int .i64 a, .int .i64 l, .bool x, .bool y] 24)) (by simp)).pass hb1
  have c10 := z1.cell (i := 0) rfl
  have c11 := z1.cell (i := 1) rfl
  have c12 := z1.cell (i := 2) rfl
  have c13 := z1.cell (i := 3) rfl
  have c14 := z1.cell (i := 4) rfl
  simp at c10 c11 c12 c13 c14
  have d10 := r1.cell (i := 0) rfl
  have d11 := r1.cell (i := 1) rfl
  have d12 := r1.cell (i := 2) rfl
  have d13 := r1.cell (i := 3) rfl
  have d14 := r1.cell (i := 4) rfl
  simp at d10 d11 d12 d13 d14
  have f10 := z1.free 0
  have g10 := r1.free 0
  have f11 := z1.free 1
  have g11 := r1.free 1
  have f12 := z1.free 2
  have g12 := r1.free 2
  have f13 := z1.free 3
  have g13 := r1.free 3
  have f14 := z1.free 4
  have g14 := r1.free 4
  have hB1 := below_pass (below2' w _ _) (by simp; omega) hb1
  go_wp2_with fail
  exact bodyPost_ret (v := .tuple #[.agg #[.int .i64 0, .int .i64 0, .int .i64 0, .bool false, .bool false], .int .i64 1]) (by simp [results, Tryd.results11, go_sem, d10, d11, d12, d13, d14]) rfl ⟨rfl, set5 hB1 (by omega) _ _ _ _ _⟩

set_option maxHeartbeats 800000 in
theorem refNext_p1 (a l : Int) (x y : Bool) (hR : Lif.right ⟨1, a, l, x, y⟩ = true) (w : World) :
    Calls Tryd.prog 11 #[.agg #[.int .i64 1, .int .i64 a, .int .i64 l, .bool x, .bool y], .int .i64 1] w (SaysNext (⟨2, a, l, x, y⟩, 0) w) := by
  go_enter Tryd.func11, Tryd.ntmps11
  go_wp2_with fail
  refine (calls_bool (refRight_any 1 a l x y) hR _).mono ?_
  rintro e w1 ⟨rfl, hb1⟩
  have z1 := ((Bk.newAt (t := 24) (cs := #[.int .i64 1, .int .i64 a, .int .i64 l, .bool x, .bool y]) (g := w.heap.size) (W := w) rfl).alloc (.cells #[.int .i64 0, .int .i64 0, .int .i64 0, .bool false, .bool false] 24)).pass hb1
  have r1 := (Bk.newAt (t := 24) (cs := #[.int .i64 0, .int .i64 0, .int .i64 0, .bool false, .bool false]) (g := w.heap.size + 1) (W := w.alloc (.cells #[.int .i64 1, .int .i64 a, .int .i64 l, .bool x, .bool y] 24)) (by simp)).pass hb1
  have c10 := z1.cell (i := 0) rfl
  have c11 := z1.cell (i := 1) rfl
  have c12 := z1.cell (i := 2) rfl
  have c13 := z1.cell (i := 3) rfl
  have c14 := z1.cell (i := 4) rfl
  simp at c10 c11 c12 c13 c14
  have d10 := r1.cell (i := 0) rfl
  have d11 := r1.cell (i := 1) rfl
  have d12 := r1.cell (i := 2) rfl
  have d13 := r1.cell (i := 3) rfl
  have d14 := r1.cell (i := 4) rfl
  simp at d10 d11 d12 d13 d14
  have f10 := z1.free 0
  have g10 := r1.free 0
  have f11 := z1.free 1
  have g11 := r1.free 1
  have f12 := z1.free 2
  have g12 := r1.free 2
  have f13 := z1.free 3
  have g13 := r1.free 3
  have f14 := z1.free 4
  have g14 := r1.free 4
  have hB1 := below_pass (below2' w _ _) (by simp; omega) hb1
  go_wp2_with (go_at_call 18; refine (refLive_any _ false (live_no (by omega)) _).mono ?_; rintro e w2 ⟨rfl, rfl⟩)
  all_goals exact bodyPost_ret (v := .tuple #[.agg #[.int .i64 2, .int .i64 a, .int .i64 l, .bool x, .bool y], .int .i64 0]) (by simp [results, Tryd.results11, go_sem, *]) rfl ⟨rfl, by exact set5 (hB1.setCell (Nat.le_refl _) _) (by omega) _ _ _ _ _⟩

set_option maxHeartbeats 800000 in
theorem refNext_p3 (a l : Int) (x y : Bool) (ha : 0 ≤ a ∧ a ≤ 100) (hR : Lif.right ⟨1, a, l, x, y⟩ = true) (w : World) :
    Calls Tryd.prog 11 #[.agg #[.int .i64 1, .int .i64 a, .int .i64 l, .bool x, .bool y], .int .i64 3] w (SaysNext (⟨3, (a + 1), l, x, y⟩, 0) w) := by
  go_enter Tryd.func11, Tryd.ntmps11
  go_wp2_with fail
  refine (calls_bool (refRight_any 1 a l x y) hR _).mono ?_
  rintro e w1 ⟨rfl, hb1⟩
  have z1 := ((Bk.newAt (t := 24) (cs := #[.int .i64 1, .int .i64 a, .int .i64 l, .bool x, .bool y]) (g := w.heap.size) (W := w) rfl).alloc (.cells #[.int .i64 0, .int .i64 0, .int .i64 0, .bool false, .bool false] 24)).pass hb1
  have r1 := (Bk.newAt (t := 24) (cs := #[.int .i64 0, .int .i64 0, .int .i64 0, .bool false, .bool false]) (g := w.heap.size + 1) (W := w.alloc (.cells #[.int .i64 1, .int .i64 a, .int .i64 l, .bool x, .bool y] 24)) (by simp)).pass hb1
  have c10 := z1.cell (i := 0) rfl
  have c11 := z1.cell (i := 1) rfl
  have c12 := z1.cell (i := 2) rfl
  have c13 := z1.cell (i := 3) rfl
  have c14 := z1.cell (i := 4) rfl
  simp at c10 c11 c12 c13 c14
  have d10 := r1.cell (i := 0) rfl
  have d11 := r1.cell (i := 1) rfl
  have d12 := r1.cell (i := 2) rfl
  have d13 := r1.cell (i := 3) rfl
  have d14 := r1.cell (i := 4) rfl
  simp at d10 d11 d12 d13 d14
  have f10 := z1.free 0
  have g10 := r1.free 0
  have f11 := z1.free 1
  have g11 := r1.free 1
  have f12 := z1.free 2
  have g12 := r1.free 2
  have f13 := z1.free 3
  have g13 := r1.free 3
  have f14 := z1.free 4
  have g14 := r1.free 4
  have hB1 := below_pass (below2' w _ _) (by simp; omega) hb1
  go_wp2_with (go_at_call 18; refine (refLive_any _ false (live_no (by omega)) _).mono ?_; rintro e w2 ⟨rfl, rfl⟩)
  all_goals exact bodyPost_ret (v := .tuple #[.agg #[.int .i64 3, .int .i64 (a + 1), .int .i64 l, .bool x, .bool y], .int .i64 0]) (by simp [results, Tryd.results11, go_sem, *]) rfl ⟨rfl, by exact set5 ((hB1.setCell (Nat.le_refl _) _).setCell (Nat.le_refl _) _) (by omega) _ _ _ _ _⟩

set_option maxHeartbeats 800000 in
theorem refNext_p6 (a l : Int) (x y : Bool) (hR : Lif.right ⟨1, a, l, x, y⟩ = true) (w : World) :
    Calls Tryd.prog 11 #[.agg #[.int .i64 1, .int .i64 a, .int .i64 l, .bool x, .bool y], .int .i64 6] w (SaysNext (⟨8, a, l, x, y⟩, 0) w) := by
  go_enter Tryd.func11, Tryd.ntmps11
  go_wp2_with fail
  refine (calls_bool (refRight_any 1 a l x y) hR _).mono ?_
  rintro e w1 ⟨rfl, hb1⟩
  have z1 := ((Bk.newAt (t := 24) (cs := #[.int .i64 1, .int .i64 a, .int .i64 l, .bool x, .bool y]) (g := w.heap.size) (W := w) rfl).alloc (.cells #[.int .i64 0, .int .i64 0, .int .i64 0, .bool false, .bool false] 24)).pass hb1
  have r1 := (Bk.newAt (t := 24) (cs := #[.int .i64 0, .int .i64 0, .int .i64 0, .bool false, .bool false]) (g := w.heap.size + 1) (W := w.alloc (.cells #[.int .i64 1, .int .i64 a, .int .i64 l, .bool x, .bool y] 24)) (by simp)).pass hb1
  have c10 := z1.cell (i := 0) rfl
  have c11 := z1.cell (i := 1) rfl
  have c12 := z1.cell (i := 2) rfl
  have c13 := z1.cell (i := 3) rfl
  have c14 := z1.cell (i := 4) rfl
  simp at c10 c11 c12 c13 c14
  have d10 := r1.cell (i := 0) rfl
  have d11 := r1.cell (i := 1) rfl
  have d12 := r1.cell (i := 2) rfl
  have d13 := r1.cell (i := 3) rfl
  have d14 := r1.cell (i := 4) rfl
  simp at d10 d11 d12 d13 d14
  have f10 := z1.free 0
  have g10 := r1.free 0
  have f11 := z1.free 1
  have g11 := r1.free 1
  have f12 := z1.free 2
  have g12 := r1.free 2
  have f13 := z1.free 3
  have g13 := r1.free 3
  have f14 := z1.free 4
  have g14 := r1.free 4
  have hB1 := below_pass (below2' w _ _) (by simp; omega) hb1
  go_wp2_with (go_at_call 18; refine (refLive_any _ false (live_no (by omega)) _).mono ?_; rintro e w2 ⟨rfl, rfl⟩)
  all_goals exact bodyPost_ret (v := .tuple #[.agg #[.int .i64 8, .int .i64 a, .int .i64 l, .bool x, .bool y], .int .i64 0]) (by simp [results, Tryd.results11, go_sem, *]) rfl ⟨rfl, by exact set5 (hB1.setCell (Nat.le_refl _) _) (by omega) _ _ _ _ _⟩

set_option maxHeartbeats 800000 in
theorem refNext_p7 (a l : Int) (x y : Bool) (hR : Lif.right ⟨1, a, l, x, y⟩ = true) (w : World) :
    Calls Tryd.prog 11 #[.agg #[.int .i64 1, .int .i64 a, .int .i64 l, .bool x, .bool y], .int .i64 7] w (SaysNext (⟨8, a, l, x, y⟩, 0) w) := by
  go_enter Tryd.func11, Tryd.ntmps11
  go_wp2_with fail
  refine (calls_bool (refRight_any 1 a l x y) hR _).mono ?_
  rintro e w1 ⟨rfl, hb1⟩
  have z1 := ((Bk.newAt (t := 24) (cs := #[.int .i64 1, .int .i64 a, .int .i64 l, .bool x, .bool y]) (g := w.heap.size) (W := w) rfl).alloc (.cells #[.int .i64 0, .int .i64 0, .int .i64 0, .bool false, .bool false] 24)).pass hb1
  have r1 := (Bk.newAt (t := 24) (cs := #[.int .i64 0, .int .i64 0, .int .i64 0, .bool false, .bool false]) (g := w.heap.size + 1) (W := w.alloc (.cells #[.int .i64 1, .int .i64 a, .int .i64 l, .bool x, .bool y] 24)) (by simp)).pass hb1
  have c10 := z1.cell (i := 0) rfl
  have c11 := z1.cell (i := 1) rfl
  have c12 := z1.cell (i := 2) rfl
  have c13 := z1.cell (i := 3) rfl
  have c14 := z1.cell (i := 4) rfl
  simp at c10 c11 c12 c13 c14
  have d10 := r1.cell (i := 0) rfl
  have d11 := r1.cell (i := 1) rfl
  have d12 := r1.cell (i := 2) rfl
  have d13 := r1.cell (i := 3) rfl
  have d14 := r1.cell (i := 4) rfl
  simp at d10 d11 d12 d13 d14
  have f10 := z1.free 0
  have g10 := r1.free 0
  have f11 := z1.free 1
  have g11 := r1.free 1
  have f12 := z1.free 2
  have g12 := r1.free 2
  have f13 := z1.free 3
  have g13 := r1.free 3
  have f14 := z1.free 4
  have g14 := r1.free 4
  have hB1 := below_pass (below2' w _ _) (by simp; omega) hb1
  go_wp2_with (go_at_call 18; refine (refLive_any _ false (live_no (by omega)) _).mono ?_; rintro e w2 ⟨rfl, rfl⟩)
  all_goals exact bodyPost_ret (v := .tuple #[.agg #[.int .i64 8, .int .i64 a, .int .i64 l, .bool x, .bool y], .int .i64 0]) (by simp [results, Tryd.results11, go_sem, *]) rfl ⟨rfl, by exact set5 (hB1.setCell (Nat.le_refl _) _) (by omega) _ _ _ _ _⟩

set_option maxHeartbeats 800000 in
theorem refNext_h2 (a l : Int) (x y : Bool) (hR : Lif.right ⟨2, a, l, x, y⟩ = true) (w : World) :
    Calls Tryd.prog 11 #[.agg #[.int .i64 2, .int .i64 a, .int .i64 l, .bool x, .bool y], .int .i64 2] w (SaysNext (⟨1, a, l, x, y⟩, 0) w) := by
  go_enter Tryd.func11, Tryd.ntmps11
  go_wp2_with fail
  refine (calls_bool (refRight_any 2 a l x y) hR _).mono ?_
  rintro e w1 ⟨rfl, hb1⟩
  have z1 := ((Bk.newAt (t := 24) (cs := #[.int .i64 2, .int .i64 a, .int .i64 l, .bool x, .bool y]) (g := w.heap.size) (W := w) rfl).alloc (.cells #[.int .i64 0, .int .i64 0, .int .i64 0, .bool false, .bool false] 24)).pass hb1
  have r1 := (Bk.newAt (t := 24) (cs := #[.int .i64 0, .int .i64 0, .int .i64 0, .bool false, .bool false]) (g := w.heap.size + 1) (W := w.alloc (.cells #[.int .i64 2, .int .i64 a, .int .i64 l, .bool x, .bool y] 24)) (by simp)).pass hb1
  have c10 := z1.cell (i := 0) rfl
  have c11 := z1.cell (i := 1) rfl
  have c12 := z1.cell (i := 2) rfl
  have c13 := z1.cell (i := 3) rfl
  have c14 := z1.cell (i := 4) rfl
  simp at c10 c11 c12 c13 c14
  have d10 := r1.cell (i := 0) rfl
  have d11 := r1.cell (i := 1) rfl
  have d12 := r1.cell (i := 2) rfl
  have d13 := r1.cell (i := 3) rfl
  have d14 := r1.cell (i := 4) rfl
  simp at d10 d11 d12 d13 d14
  have f10 := z1.free 0
  have g10 := r1.free 0
  have f11 := z1.free 1
  have g11 := r1.free 1
  have f12 := z1.free 2
  have g12 := r1.free 2
  have f13 := z1.free 3
  have g13 := r1.free 3
  have f14 := z1.free 4
  have g14 := r1.free 4
  have hB1 := below_pass (below2' w _ _) (by simp; omega) hb1
  go_wp2_with (go_at_call 18; refine (refLive_any _ false (live_no (by omega)) _).mono ?_; rintro e w2 ⟨rfl, rfl⟩)
  all_goals exact bodyPost_ret (v := .tuple #[.agg #[.int .i64 1, .int .i64 a, .int .i64 l, .bool x, .bool y], .int .i64 0]) (by simp [results, Tryd.results11, go_sem, *]) rfl ⟨rfl, by exact set5 (hB1.setCell (Nat.le_refl _) _) (by omega) _ _ _ _ _⟩

set_option maxHeartbeats 800000 in
theorem refNext_h6 (a l : Int) (x y : Bool) (hR : Lif.right ⟨2, a, l, x, y⟩ = true) (w : World) :
    Calls Tryd.prog 11 #[.agg #[.int .i64 2, .int .i64 a, .int .i64 l, .bool x, .bool y], .int .i64 6] w (SaysNext (⟨8, a, l, x, y⟩, 0) w) := by
  go_enter Tryd.func11, Tryd.ntmps11
  go_wp2_with fail
  refine (calls_bool (refRight_any 2 a l x y) hR _).mono ?_
  rintro e w1 ⟨rfl, hb1⟩
  have z1 := ((Bk.newAt (t := 24) (cs := #[.int .i64 2, .int .i64 a, .int .i64 l, .bool x, .bool y]) (g := w.heap.size) (W := w) rfl).alloc (.cells #[.int .i64 0, .int .i64 0, .int .i64 0, .bool false, .bool false] 24)).pass hb1
  have r1 := (Bk.newAt (t := 24) (cs := #[.int .i64 0, .int .i64 0, .int .i64 0, .bool false, .bool false]) (g := w.heap.size + 1) (W := w.alloc (.cells #[.int .i64 2, .int .i64 a, .int .i64 l, .bool x, .bool y] 24)) (by simp)).pass hb1
  have c10 := z1.cell (i := 0) rfl
  have c11 := z1.cell (i := 1) rfl
  have c12 := z1.cell (i := 2) rfl
  have c13 := z1.cell (i := 3) rfl
  have c14 := z1.cell (i := 4) rfl
  simp at c10 c11 c12 c13 c14
  have d10 := r1.cell (i := 0) rfl
  have d11 := r1.cell (i := 1) rfl
  have d12 := r1.cell (i := 2) rfl
  have d13 := r1.cell (i := 3) rfl
  have d14 := r1.cell (i := 4) rfl
  simp at d10 d11 d12 d13 d14
  have f10 := z1.free 0
  have g10 := r1.free 0
  have f11 := z1.free 1
  have g11 := r1.free 1
  have f12 := z1.free 2
  have g12 := r1.free 2
  have f13 := z1.free 3
  have g13 := r1.free 3
  have f14 := z1.free 4
  have g14 := r1.free 4
  have hB1 := below_pass (below2' w _ _) (by simp; omega) hb1
  go_wp2_with (go_at_call 18; refine (refLive_any _ false (live_no (by omega)) _).mono ?_; rintro e w2 ⟨rfl, rfl⟩)
  all_goals exact bodyPost_ret (v := .tuple #[.agg #[.int .i64 8, .int .i64 a, .int .i64 l, .bool x, .bool y], .int .i64 0]) (by simp [results, Tryd.results11, go_sem, *]) rfl ⟨rfl, by exact set5 (hB1.setCell (Nat.le_refl _) _) (by omega) _ _ _ _ _⟩

set_option maxHeartbeats 800000 in
theorem refNext_h7 (a l : Int) (x y : Bool) (hR : Lif.right ⟨2, a, l, x, y⟩ = true) (w : World) :
    Calls Tryd.prog 11 #[.agg #[.int .i64 2, .int .i64 a, .int .i64 l, .bool x, .bool y], .int .i64 7] w (SaysNext (⟨8, a, l, x, y⟩, 0) w) := by
  go_enter Tryd.func11, Tryd.ntmps11
  go_wp2_with fail
  refine (calls_bool (refRight_any 2 a l x y) hR _).mono ?_
  rintro e w1 ⟨rfl, hb1⟩
  have z1 := ((Bk.newAt (t := 24) (cs := #[.int .i64 2, .int .i64 a, .int .i64 l, .bool x, .bool y]) (g := w.heap.size) (W := w) rfl).alloc (.cells #[.int .i64 0, .int .i64 0, .int .i64 0, .bool false, .bool false] 24)).pass hb1
  have r1 := (Bk.newAt (t := 24) (cs := #[.int .i64 0, .int .i64 0, .int .i64 0, .bool false, .bool false]) (g := w.heap.size + 1) (W := w.alloc (.cells #[.int .i64 2, .int .i64 a, .int .i64 l, .bool x, .bool y] 24)) (by simp)).pass hb1
  have c10 := z1.cell (i := 0) rfl
  have c11 := z1.cell (i := 1) rfl
  have c12 := z1.cell (i := 2) rfl
  have c13 := z1.cell (i := 3) rfl
  have c14 := z1.cell (i := 4) rfl
  simp at c10 c11 c12 c13 c14
  have d10 := r1.cell (i := 0) rfl
  have d11 := r1.cell (i := 1) rfl
  have d12 := r1.cell (i := 2) rfl
  have d13 := r1.cell (i := 3) rfl
  have d14 := r1.cell (i := 4) rfl
  simp at d10 d11 d12 d13 d14
  have f10 := z1.free 0
  have g10 := r1.free 0
  have f11 := z1.free 1
  have g11 := r1.free 1
  have f12 := z1.free 2
  have g12 := r1.free 2
  have f13 := z1.free 3
  have g13 := r1.free 3
  have f14 := z1.free 4
  have g14 := r1.free 4
  have hB1 := below_pass (below2' w _ _) (by simp; omega) hb1
  go_wp2_with (go_at_call 18; refine (refLive_any _ false (live_no (by omega)) _).mono ?_; rintro e w2 ⟨rfl, rfl⟩)
  all_goals exact bodyPost_ret (v := .tuple #[.agg #[.int .i64 8, .int .i64 a, .int .i64 l, .bool x, .bool y], .int .i64 0]) (by simp [results, Tryd.results11, go_sem, *]) rfl ⟨rfl, by exact set5 (hB1.setCell (Nat.le_refl _) _) (by omega) _ _ _ _ _⟩

set_option maxHeartbeats 800000 in
theorem refNext_r4 (a l : Int) (x y : Bool) (hR : Lif.right ⟨3, a, l, x, y⟩ = true) (w : World) :
    Calls Tryd.prog 11 #[.agg #[.int .i64 3, .int .i64 a, .int .i64 l, .bool x, .bool y], .int .i64 4] w (SaysNext (⟨4, a, l, true, y⟩, 0) w) := by
  go_enter Tryd.func11, Tryd.ntmps11
  go_wp2_with fail
  refine (calls_bool (refRight_any 3 a l x y) hR _).mono ?_
  rintro e w1 ⟨rfl, hb1⟩
  have z1 := ((Bk.newAt (t := 24) (cs := #[.int .i64 3, .int .i64 a, .int .i64 l, .bool x, .bool y]) (g := w.heap.size) (W := w) rfl).alloc (.cells #[.int .i64 0, .int .i64 0, .int .i64 0, .bool false, .bool false] 24)).pass hb1
  have r1 := (Bk.newAt (t := 24) (cs := #[.int .i64 0, .int .i64 0, .int .i64 0, .bool false, .bool false]) (g := w.heap.size + 1) (W := w.alloc (.cells #[.int .i64 3, .int .i64 a, .int .i64 l, .bool x, .bool y] 24)) (by simp)).pass hb1
  have c10 := z1.cell (i := 0) rfl
  have c11 := z1.cell (i := 1) rfl
  have c12 := z1.cell (i := 2) rfl
  have c13 := z1.cell (i := 3) rfl
  have c14 := z1.cell (i := 4) rfl
  simp at c10 c11 c12 c13 c14
  have d10 := r1.cell (i := 0) rfl
  have d11 := r1.cell (i := 1) rfl
  have d12 := r1.cell (i := 2) rfl
  have d13 := r1.cell (i := 3) rfl
  have d14 := r1.cell (i := 4) rfl
  simp at d10 d11 d12 d13 d14
  have f10 := z1.free 0
  have g10 := r1.free 0
  have f11 := z1.free 1
  have g11 := r1.free 1
  have f12 := z1.free 2
  have g12 := r1.free 2
  have f13 := z1.free 3
  have g13 := r1.free 3
  have f14 := z1.free 4
  have g14 := r1.free 4
  have hB1 := below_pass (below2' w _ _) (by simp; omega) hb1
  go_wp2_with (go_at_call 18; refine (refLive_any _ true (live_yes (by omega)) _).mono ?_; rintro e w2 ⟨rfl, rfl⟩)
  all_goals exact bodyPost_ret (v := .tuple #[.agg #[.int .i64 4, .int .i64 a, .int .i64 l, .bool true, .bool y], .int .i64 0]) (by simp [results, Tryd.results11, go_sem, *]) rfl ⟨rfl, by exact set5 ((hB1.setCell (Nat.le_refl _) _).setCell (Nat.le_refl _) _) (by omega) _ _ _ _ _⟩

set_option maxHeartbeats 800000 in
theorem refNext_r5 (a l : Int) (x y : Bool) (hR : Lif.right ⟨3, a, l, x, y⟩ = true) (w : World) :
    Calls Tryd.prog 11 #[.agg #[.int .i64 3, .int .i64 a, .int .i64 l, .bool x, .bool y], .int .i64 5] w (SaysNext (⟨4, a, l, x, y⟩, 0) w) := by
  go_enter Tryd.func11, Tryd.ntmps11
  go_wp2_with fail
  refine (calls_bool (refRight_any 3 a l x y) hR _).mono ?_
  rintro e w1 ⟨rfl, hb1⟩
  have z1 := ((Bk.newAt (t := 24) (cs := #[.int .i64 3, .int .i64 a, .int .i64 l, .bool x, .bool y]) (g := w.heap.size) (W := w) rfl).alloc (.cells #[.int .i64 0, .int .i64 0, .int .i64 0, .bool false, .bool false] 24)).pass hb1
  have r1 := (Bk.newAt (t := 24) (cs := #[.int .i64 0, .int .i64 0, .int .i64 0, .bool false, .bool false]) (g := w.heap.size + 1) (W := w.alloc (.cells #[.int .i64 3, .int .i64 a, .int .i64 l, .bool x, .bool y] 24)) (by simp)).pass hb1
  have c10 := z1.cell (i := 0) rfl
  have c11 := z1.cell (i := 1) rfl
  have c12 := z1.cell (i := 2) rfl
  have c13 := z1.cell (i := 3) rfl
  have c14 := z1.cell (i := 4) rfl
  simp at c10 c11 c12 c13 c14
  have d10 := r1.cell (i := 0) rfl
  have d11 := r1.cell (i := 1) rfl
  have d12 := r1.cell (i := 2) rfl
  have d13 := r1.cell (i := 3) rfl
  have d14 := r1.cell (i := 4) rfl
  simp at d10 d11 d12 d13 d14
  have f10 := z1.free 0
  have g10 := r1.free 0
  have f11 := z1.free 1
  have g11 := r1.free 1
  have f12 := z1.free 2
  have g12 := r1.free 2
  have f13 := z1.free 3
  have g13 := r1.free 3
  have f14 := z1.free 4
  have g14 := r1.free 4
  have hB1 := below_pass (below2' w _ _) (by simp; omega) hb1
  go_wp2_with (go_at_call 18; refine (refLive_any _ true (live_yes (by omega)) _).mono ?_; rintro e w2 ⟨rfl, rfl⟩)
  all_goals exact bodyPost_ret (v := .tuple #[.agg #[.int .i64 4, .int .i64 a, .int .i64 l, .bool x, .bool y], .int .i64 0]) (by simp [results, Tryd.results11, go_sem, *]) rfl ⟨rfl, by exact set5 (hB1.setCell (Nat.le_refl _) _) (by omega) _ _ _ _ _⟩

set_option maxHeartbeats 800000 in
theorem refNext_r6 (a l : Int) (x : Bool) (hR : Lif.right ⟨3, a, l, x, false⟩ = true) (w : World) :
    Calls Tryd.prog 11 #[.agg #[.int .i64 3, .int .i64 a, .int .i64 l, .bool x, .bool false], .int .i64 6] w (SaysNext (⟨4, a, l, x, true⟩, 0) w) := by
  go_enter Tryd.func11, Tryd.ntmps11
  go_wp2_with fail
  refine (calls_bool (refRight_any 3 a l x false) hR _).mono ?_
  rintro e w1 ⟨rfl, hb1⟩
  have z1 := ((Bk.newAt (t := 24) (cs := #[.int .i64 3, .int .i64 a, .int .i64 l, .bool x, .bool false]) (g := w.heap.size) (W := w) rfl).alloc (.cells #[.int .i64 0, .int .i64 0, .int .i64 0, .bool false, .bool false] 24)).pass hb1
  have r1 := (Bk.newAt (t := 24) (cs := #[.int .i64 0, .int .i64 0, .int .i64 0, .bool false, .bool false]) (g := w.heap.size + 1) (W := w.alloc (.cells #[.int .i64 3, .int .i64 a, .int .i64 l, .bool x, .bool false] 24)) (by simp)).pass hb1
  have c10 := z1.cell (i := 0) rfl
  have c11 := z1.cell (i := 1) rfl
  have c12 := z1.cell (i := 2) rfl
  have c13 := z1.cell (i := 3) rfl
  have c14 := z1.cell (i := 4) rfl
  simp at c10 c11 c12 c13 c14
  have d10 := r1.cell (i := 0) rfl
  have d11 := r1.cell (i := 1) rfl
  have d12 := r1.cell (i := 2) rfl
  have d13 := r1.cell (i := 3) rfl
  have d14 := r1.cell (i := 4) rfl
  simp at d10 d11 d12 d13 d14
  have f10 := z1.free 0
  have g10 := r1.free 0
  have f11 := z1.free 1
  have g11 := r1.free 1
  have f12 := z1.free 2
  have g12 := r1.free 2
  have f13 := z1.free 3
  have g13 := r1.free 3
  have f14 := z1.free 4
  have g14 := r1.free 4
  have hB1 := below_pass (below2' w _ _) (by simp; omega) hb1
  go_wp2_with (go_at_call 18; refine (refLive_any _ true (live_yes (by omega)) _).mono ?_; rintro e w2 ⟨rfl, rfl⟩)
  all_goals exact bodyPost_ret (v := .tuple #[.agg #[.int .i64 4, .int .i64 a, .int .i64 l, .bool x, .bool true], .int .i64 0]) (by simp [results, Tryd.results11, go_sem, *]) rfl ⟨rfl, by exact set5 ((hB1.setCell (Nat.le_refl _) _).setCell (Nat.le_refl _) _) (by omega) _ _ _ _ _⟩

set_option maxHeartbeats 800000 in
theorem refNext_r8 (a l : Int) (x y : Bool) (hR : Lif.right ⟨3, a, l, x, y⟩ = true) (w : World) :
    Calls Tryd.prog 11 #[.agg #[.int .i64 3, .int .i64 a, .int .i64 l, .bool x, .bool y], .int .i64 8] w (SaysNext (⟨5, a, l, x, y⟩, 0) w) := by
  go_enter Tryd.func11, Tryd.ntmps11
  go_wp2_with fail
  refine (calls_bool (refRight_any 3 a l x y) hR _).mono ?_
  rintro e w1 ⟨rfl, hb1⟩
  have z1 := ((Bk.newAt (t := 24) (cs := #[.int .i64 3, .int .i64 a, .int .i64 l, .bool x, .bool y]) (g := w.heap.size) (W := w) rfl).alloc (.cells #[.int .i64 0, .int .i64 0, .int .i64 0, .bool false, .bool false] 24)).pass hb1
  have r1 := (Bk.newAt (t := 24) (cs := #[.int .i64 0, .int .i64 0, .int .i64 0, .bool false, .bool false]) (g := w.heap.size + 1) (W := w.alloc (.cells #[.int .i64 3, .int .i64 a, .int .i64 l, .bool x, .bool y] 24)) (by simp)).pass hb1
  have c10 := z1.cell (i := 0) rfl
  have c11 := z1.cell (i := 1) rfl
  have c12 := z1.cell (i := 2) rfl
  have c13 := z1.cell (i := 3) rfl
  have c14 := z1.cell (i := 4) rfl
  simp at c10 c11 c12 c13 c14
  have d10 := r1.cell (i := 0) rfl
  have d11 := r1.cell (i := 1) rfl
  have d12 := r1.cell (i := 2) rfl
  have d13 := r1.cell (i := 3) rfl
  have d14 := r1.cell (i := 4) rfl
  simp at d10 d11 d12 d13 d14
  have f10 := z1.free 0
  have g10 := r1.free 0
  have f11 := z1.free 1
  have g11 := r1.free 1
  have f12 := z1.free 2
  have g12 := r1.free 2
  have f13 := z1.free 3
  have g13 := r1.free 3
  have f14 := z1.free 4
  have g14 := r1.free 4
  have hB1 := below_pass (below2' w _ _) (by simp; omega) hb1
  go_wp2_with (go_at_call 18; refine (refLive_any _ true (live_yes (by omega)) _).mono ?_; rintro e w2 ⟨rfl, rfl⟩)
  all_goals exact bodyPost_ret (v := .tuple #[.agg #[.int .i64 5, .int .i64 a, .int .i64 l, .bool x, .bool y], .int .i64 0]) (by simp [results, Tryd.results11, go_sem, *]) rfl ⟨rfl, by exact set5 (hB1.setCell (Nat.le_refl _) _) (by omega) _ _ _ _ _⟩

set_option maxHeartbeats 800000 in
theorem refNext_e4 (a l : Int) (x y : Bool) (hR : Lif.right ⟨4, a, l, x, y⟩ = true) (w : World) :
    Calls Tryd.prog 11 #[.agg #[.int .i64 4, .int .i64 a, .int .i64 l, .bool x, .bool y], .int .i64 4] w (SaysNext (⟨4, a, l, true, y⟩, 0) w) := by
  go_enter Tryd.func11, Tryd.ntmps11
  go_wp2_with fail
  refine (calls_bool (refRight_any 4 a l x y) hR _).mono ?_
  rintro e w1 ⟨rfl, hb1⟩
  have z1 := ((Bk.newAt (t := 24) (cs := #[.int .i64 4, .int .i64 a, .int .i64 l, .bool x, .bool y]) (g := w.heap.size) (W := w) rfl).alloc (.cells #[.int .i64 0, .int .i64 0, .int .i64 0, .bool false, .bool false] 24)).pass hb1
  have r1 := (Bk.newAt (t := 24) (cs := #[.int .i64 0, .int .i64 0, .int .i64 0, .bool false, .bool false]) (g := w.heap.size + 1) (W := w.alloc (.cells #[.int .i64 4, .int .i64 a, .int .i64 l, .bool x, .bool y] 24)) (by simp)).pass hb1
  have c10 := z1.cell (i := 0) rfl
  have c11 := z1.cell (i := 1) rfl
  have c12 := z1.cell (i := 2) rfl
  have c13 := z1.cell (i := 3) rfl
  have c14 := z1.cell (i := 4) rfl
  simp at c10 c11 c12 c13 c14
  have d10 := r1.cell (i := 0) rfl
  have d11 := r1.cell (i := 1) rfl
  have d12 := r1.cell (i := 2) rfl
  have d13 := r1.cell (i := 3) rfl
  have d14 := r1.cell (i := 4) rfl
  simp at d10 d11 d12 d13 d14
  have f10 := z1.free 0
  have g10 := r1.free 0
  have f11 := z1.free 1
  have g11 := r1.free 1
  have f12 := z1.free 2
  have g12 := r1.free 2
  have f13 := z1.free 3
  have g13 := r1.free 3
  have f14 := z1.free 4
  have g14 := r1.free 4
  have hB1 := below_pass (below2' w _ _) (by simp; omega) hb1
  go_wp2_with (go_at_call 18; refine (refLive_any _ true (live_yes (by omega)) _).mono ?_; rintro e w2 ⟨rfl, rfl⟩)
  all_goals exact bodyPost_ret (v := .tuple #[.agg #[.int .i64 4, .int .i64 a, .int .i64 l, .bool true, .bool y], .int .i64 0]) (by simp [results, Tryd.results11, go_sem, *]) rfl ⟨rfl, by exact set5 ((hB1.setCell (Nat.le_refl _) _).setCell (Nat.le_refl _) _) (by omega) _ _ _ _ _⟩

set_option maxHeartbeats 800000 in
theorem refNext_e5 (a l : Int) (x y : Bool) (hR : Lif.right ⟨4, a, l, x, y⟩ = true) (w : World) :
    Calls Tryd.prog 11 #[.agg #[.int .i64 4, .int .i64 a, .int .i64 l, .bool x, .bool y], .int .i64 5] w (SaysNext (⟨4, a, l, x, y⟩, 0) w) := by
  go_enter Tryd.func11, Tryd.ntmps11
  go_wp2_with fail
  refine (calls_bool (refRight_any 4 a l x y) hR _).mono ?_
  rintro e w1 ⟨rfl, hb1⟩
  have z1 := ((Bk.newAt (t := 24) (cs := #[.int .i64 4, .int .i64 a, .int .i64 l, .bool x, .bool y]) (g := w.heap.size) (W := w) rfl).alloc (.cells #[.int .i64 0, .int .i64 0, .int .i64 0, .bool false, .bool false] 24)).pass hb1
  have r1 := (Bk.newAt (t := 24) (cs := #[.int .i64 0, .int .i64 0, .int .i64 0, .bool false, .bool false]) (g := w.heap.size + 1) (W := w.alloc (.cells #[.int .i64 4, .int .i64 a, .int .i64 l, .bool x, .bool y] 24)) (by simp)).pass hb1
  have c10 := z1.cell (i := 0) rfl
  have c11 := z1.cell (i := 1) rfl
  have c12 := z1.cell (i := 2) rfl
  have c13 := z1.cell (i := 3) rfl
  have c14 := z1.cell (i := 4) rfl
  simp at c10 c11 c12 c13 c14
  have d10 := r1.cell (i := 0) rfl
  have d11 := r1.cell (i := 1) rfl
  have d12 := r1.cell (i := 2) rfl
  have d13 := r1.cell (i := 3) rfl
  have d14 := r1.cell (i := 4) rfl
  simp at d10 d11 d12 d13 d14
  have f10 := z1.free 0
  have g10 := r1.free 0
  have f11 := z1.free 1
  have g11 := r1.free 1
  have f12 := z1.free 2
  have g12 := r1.free 2
  have f13 := z1.free 3
  have g13 := r1.free 3
  have f14 := z1.free 4
  have g14 := r1.free 4
  have hB1 := below_pass (below2' w _ _) (by simp; omega) hb1
  go_wp2_with (go_at_call 18; refine (refLive_any _ true (live_yes (by omega)) _).mono ?_; rintro e w2 ⟨rfl, rfl⟩)
  all_goals exact bodyPost_ret (v := .tuple #[.agg #[.int .i64 4, .int .i64 a, .int .i64 l, .bool x, .bool y], .int .i64 0]) (by simp [results, Tryd.results11, go_sem, *]) rfl ⟨rfl, by exact set5 (hB1.setCell (Nat.le_refl _) _) (by omega) _ _ _ _ _⟩

set_option maxHeartbeats 800000 in
theorem refNext_e6 (a l : Int) (x : Bool) (hR : Lif.right ⟨4, a, l, x, false⟩ = true) (w : World) :
    Calls Tryd.prog 11 #[.agg #[.int .i64 4, .int .i64 a, .int .i64 l, .bool x, .bool false], .int .i64 6] w (SaysNext (⟨4, a, l, x, true⟩, 0) w) := by
  go_enter Tryd.func11, Tryd.ntmps11
  go_wp2_with fail
  refine (calls_bool (refRight_any 4 a l x false) hR _).mono ?_
  rintro e w1 ⟨rfl, hb1⟩
  have z1 := ((Bk.newAt (t := 24) (cs := #[.int .i64 4, .int .i64 a, .int .i64 l, .bool x, .bool false]) (g := w.heap.size) (W := w) rfl).alloc (.cells #[.int .i64 0, .int .i64 0, .int .i64 0, .bool false, .bool false] 24)).pass hb1
  have r1 := (Bk.newAt (t := 24) (cs := #[.int .i64 0, .int .i64 0, .int .i64 0, .bool false, .bool false]) (g := w.heap.size + 1) (W := w.alloc (.cells #[.int .i64 4, .int .i64 a, .int .i64 l, .bool x, .bool false] 24)) (by simp)).pass hb1
  have c10 := z1.cell (i := 0) rfl
  have c11 := z1.cell (i := 1) rfl
  have c12 := z1.cell (i := 2) rfl
  have c13 := z1.cell (i := 3) rfl
  have c14 := z1.cell (i := 4) rfl
  simp at c10 c11 c12 c13 c14
  have d10 := r1.cell (i := 0) rfl
  have d11 := r1.cell (i := 1) rfl
  have d12 := r1.cell (i := 2) rfl
  have d13 := r1.cell (i := 3) rfl
  have d14 := r1.cell (i := 4) rfl
  simp at d10 d11 d12 d13 d14
  have f10 := z1.free 0
  have g10 := r1.free 0
  have f11 := z1.free 1
  have g11 := r1.free 1
  have f12 := z1.free 2
  have g12 := r1.free 2
  have f13 := z1.free 3
  have g13 := r1.free 3
  have f14 := z1.free 4
  have g14 := r1.free 4
  have hB1 := below_pass (below2' w _ _) (by simp; omega) hb1
  go_wp2_with (go_at_call 18; refine (refLive_any _ true (live_yes (by omega)) _).mono ?_; rintro e w2 ⟨rfl, rfl⟩)
  all_goals exact bodyPost_ret (v := .tuple #[.agg #[.int .i64 4, .int .i64 a, .int .i64 l, .bool x, .bool true], .int .i64 0]) (by simp [results, Tryd.results11, go_sem, *]) rfl ⟨rfl, by exact set5 ((hB1.setCell (Nat.le_refl _) _).setCell (Nat.le_refl _) _) (by omega) _ _ _ _ _⟩

end Go.Proofs.YtmpggfcceepccaaDoor
