/- The document's Next: where nothing happens, and an Ending life's end. -/
import Derived.Test.YtmpggfcceepccaaDoorWp
namespace Go.Proofs.YtmpggfcceepccaaDoor
open Go.RowKit

set_option maxHeartbeats 800000 in
theorem refNext_x1 (a l : Int) (x y : Bool) (g : Int) (t0 : (g == 1) = false) (t1 : (g == 3) = false) (t2 : (g == 6) = false) (t3 : (g == 7) = false) (hR : Lif.right ⟨1, a, l, x, y⟩ = true) (w : World) :
    Calls Tryd.prog 11 #[.agg #[.int .i64 1, .int .i64 a, .int .i64 l, .bool x, .bool y], .int .i64 g] w (SaysNext (⟨0, 0, 0, false, false⟩, 100) w) := by
  go_enter Tryd.func11, Tryd.ntmps11
  go_wp2_with fail
  refine (calls_bool (refRight_any 1 a l x y) hR _).mono ?_
  rintro e w1 ⟨rfl, hb1⟩
  have z1 := ((Bk.newAt (t := 24) (cs := #[.int .i64 1, .int .i64 a, .int .i64 l, .bool x, .bool y]) (g := w.heap.size) (W := w) rfl).alloc (.cells #[.int .i64 0, .int .i64 0, .int .i64 0, .bool false, .bool false] 24)).pass hb1
  have r1 := (Bk.newAt (t := 24) (cs := #[.int .i64 0, .int .i64 0, .int .i64 0, .bool false, .bool false]) (g := w.heap.size + 1) (W := w.alloc (.cells #[.int .i64 1, .int .i64 a, .int .i64 l, .bool x, .bool y] 24)) (by simp)).pass hb1
  have c10 := z1.cell (i := 0) rfl
  have c11 := z1.cell (i := 1) rfl
  have c12 := z1.cell (i := 2) rfl
  have c13 := z1.cell (i := 3) rfl
  have c14 := z1.cell (i := 4) rfl
  simp at c10 c11 c12 c13 c14
  have d10 := r1.cell (i := 0) rfl
  have d11 := r1.cell (i := 1) rfl
  have d12 := r1.cell (i := 2) rfl
  have d13 := r1.cell (i := 3) rfl
  have d14 := r1.cell (i := 4) rfl
  simp at d10 d11 d12 d13 d14
  have f10 := z1.free 0
  have g10 := r1.free 0
  have f11 := z1.free 1
  have g11 := r1.free 1
  have f12 := z1.free 2
  have g12 := r1.free 2
  have f13 := z1.free 3
  have g13 := r1.free 3
  have f14 := z1.free 4
  have g14 := r1.free 4
  have hB1 := below_pass (below2' w _ _) (by simp; omega) hb1
  go_wp2_with (go_at_call 18; refine (refLive_any _ false (live_no (by omega)) _).mono ?_; rintro e w2 ⟨rfl, rfl⟩)
  all_goals exact bodyPost_ret (v := .tuple #[.agg #[.int .i64 0, .int .i64 0, .int .i64 0, .bool false, .bool false], .int .i64 100]) (by simp [results, Tryd.results11, go_sem, *]) rfl ⟨rfl, by exact set5 hB1 (by omega) _ _ _ _ _⟩

set_option maxHeartbeats 800000 in
theorem refNext_x2 (a l : Int) (x y : Bool) (g : Int) (t0 : (g == 2) = false) (t1 : (g == 6) = false) (t2 : (g == 7) = false) (hR : Lif.right ⟨2, a, l, x, y⟩ = true) (w : World) :
    Calls Tryd.prog 11 #[.agg #[.int .i64 2, .int .i64 a, .int .i64 l, .bool x, .bool y], .int .i64 g] w (SaysNext (⟨0, 0, 0, false, false⟩, 100) w) := by
  go_enter Tryd.func11, Tryd.ntmps11
  go_wp2_with fail
  refine (calls_bool (refRight_any 2 a l x y) hR _).mono ?_
  rintro e w1 ⟨rfl, hb1⟩
  have z1 := ((Bk.newAt (t := 24) (cs := #[.int .i64 2, .int .i64 a, .int .i64 l, .bool x, .bool y]) (g := w.heap.size) (W := w) rfl).alloc (.cells #[.int .i64 0, .int .i64 0, .int .i64 0, .bool false, .bool false] 24)).pass hb1
  have r1 := (Bk.newAt (t := 24) (cs := #[.int .i64 0, .int .i64 0, .int .i64 0, .bool false, .bool false]) (g := w.heap.size + 1) (W := w.alloc (.cells #[.int .i64 2, .int .i64 a, .int .i64 l, .bool x, .bool y] 24)) (by simp)).pass hb1
  have c10 := z1.cell (i := 0) rfl
  have c11 := z1.cell (i := 1) rfl
  have c12 := z1.cell (i := 2) rfl
  have c13 := z1.cell (i := 3) rfl
  have c14 := z1.cell (i := 4) rfl
  simp at c10 c11 c12 c13 c14
  have d10 := r1.cell (i := 0) rfl
  have d11 := r1.cell (i := 1) rfl
  have d12 := r1.cell (i := 2) rfl
  have d13 := r1.cell (i := 3) rfl
  have d14 := r1.cell (i := 4) rfl
  simp at d10 d11 d12 d13 d14
  have f10 := z1.free 0
  have g10 := r1.free 0
  have f11 := z1.free 1
  have g11 := r1.free 1
  have f12 := z1.free 2
  have g12 := r1.free 2
  have f13 := z1.free 3
  have g13 := r1.free 3
  have f14 := z1.free 4
  have g14 := r1.free 4
  have hB1 := below_pass (below2' w _ _) (by simp; omega) hb1
  go_wp2_with (go_at_call 18; refine (refLive_any _ false (live_no (by omega)) _).mono ?_; rintro e w2 ⟨rfl, rfl⟩)
  all_goals exact bodyPost_ret (v := .tuple #[.agg #[.int .i64 0, .int .i64 0, .int .i64 0, .bool false, .bool false], .int .i64 100]) (by simp [results, Tryd.results11, go_sem, *]) rfl ⟨rfl, by exact set5 hB1 (by omega) _ _ _ _ _⟩

set_option maxHeartbeats 800000 in
theorem refNext_x3 (a l : Int) (x : Bool) (g : Int) (t0 : (g == 4) = false) (t1 : (g == 5) = false) (t2 : (g == 6) = false) (t3 : (g == 8) = false) (hR : Lif.right ⟨3, a, l, x, false⟩ = true) (w : World) :
    Calls Tryd.prog 11 #[.agg #[.int .i64 3, .int .i64 a, .int .i64 l, .bool x, .bool false], .int .i64 g] w (SaysNext (⟨0, 0, 0, false, false⟩, 100) w) := by
  go_enter Tryd.func11, Tryd.ntmps11
  go_wp2_with fail
  refine (calls_bool (refRight_any 3 a l x false) hR _).mono ?_
  rintro e w1 ⟨rfl, hb1⟩
  have z1 := ((Bk.newAt (t := 24) (cs := #[.int .i64 3, .int .i64 a, .int .i64 l, .bool x, .bool false]) (g := w.heap.size) (W := w) rfl).alloc (.cells #[.int .i64 0, .int .i64 0, .int .i64 0, .bool false, .bool false] 24)).pass hb1
  have r1 := (Bk.newAt (t := 24) (cs := #[.int .i64 0, .int .i64 0, .int .i64 0, .bool false, .bool false]) (g := w.heap.size + 1) (W := w.alloc (.cells #[.int .i64 3, .int .i64 a, .int .i64 l, .bool x, .bool false] 24)) (by simp)).pass hb1
  have c10 := z1.cell (i := 0) rfl
  have c11 := z1.cell (i := 1) rfl
  have c12 := z1.cell (i := 2) rfl
  have c13 := z1.cell (i := 3) rfl
  have c14 := z1.cell (i := 4) rfl
  simp at c10 c11 c12 c13 c14
  have d10 := r1.cell (i := 0) rfl
  have d11 := r1.cell (i := 1) rfl
  have d12 := r1.cell (i := 2) rfl
  have d13 := r1.cell (i := 3) rfl
  have d14 := r1.cell (i := 4) rfl
  simp at d10 d11 d12 d13 d14
  have f10 := z1.free 0
  have g10 := r1.free 0
  have f11 := z1.free 1
  have g11 := r1.free 1
  have f12 := z1.free 2
  have g12 := r1.free 2
  have f13 := z1.free 3
  have g13 := r1.free 3
  have f14 := z1.free 4
  have g14 := r1.free 4
  have hB1 := below_pass (below2' w _ _) (by simp; omega) hb1
  go_wp2_with (go_at_call 18; refine (refLive_any _ true (live_yes (by omega)) _).mono ?_; rintro e w2 ⟨rfl, rfl⟩)
  all_goals exact bodyPost_ret (v := .tuple #[.agg #[.int .i64 0, .int .i64 0, .int .i64 0, .bool false, .bool false], .int .i64 100]) (by simp [results, Tryd.results11, go_sem, *]) rfl ⟨rfl, by exact set5 hB1 (by omega) _ _ _ _ _⟩

set_option maxHeartbeats 800000 in
theorem refNext_x3t (a l : Int) (x : Bool) (g : Int) (t0 : (g == 4) = false) (t1 : (g == 5) = false) (t2 : (g == 8) = false) (hR : Lif.right ⟨3, a, l, x, true⟩ = true) (w : World) :
    Calls Tryd.prog 11 #[.agg #[.int .i64 3, .int .i64 a, .int .i64 l, .bool x, .bool true], .int .i64 g] w (SaysNext (⟨0, 0, 0, false, false⟩, 100) w) := by
  go_enter Tryd.func11, Tryd.ntmps11
  go_wp2_with fail
  refine (calls_bool (refRight_any 3 a l x true) hR _).mono ?_
  rintro e w1 ⟨rfl, hb1⟩
  have z1 := ((Bk.newAt (t := 24) (cs := #[.int .i64 3, .int .i64 a, .int .i64 l, .bool x, .bool true]) (g := w.heap.size) (W := w) rfl).alloc (.cells #[.int .i64 0, .int .i64 0, .int .i64 0, .bool false, .bool false] 24)).pass hb1
  have r1 := (Bk.newAt (t := 24) (cs := #[.int .i64 0, .int .i64 0, .int .i64 0, .bool false, .bool false]) (g := w.heap.size + 1) (W := w.alloc (.cells #[.int .i64 3, .int .i64 a, .int .i64 l, .bool x, .bool true] 24)) (by simp)).pass hb1
  have c10 := z1.cell (i := 0) rfl
  have c11 := z1.cell (i := 1) rfl
  have c12 := z1.cell (i := 2) rfl
  have c13 := z1.cell (i := 3) rfl
  have c14 := z1.cell (i := 4) rfl
  simp at c10 c11 c12 c13 c14
  have d10 := r1.cell (i := 0) rfl
  have d11 := r1.cell (i := 1) rfl
  have d12 := r1.cell (i := 2) rfl
  have d13 := r1.cell (i := 3) rfl
  have d14 := r1.cell (i := 4) rfl
  simp at d10 d11 d12 d13 d14
  have f10 := z1.free 0
  have g10 := r1.free 0
  have f11 := z1.free 1
  have g11 := r1.free 1
  have f12 := z1.free 2
  have g12 := r1.free 2
  have f13 := z1.free 3
  have g13 := r1.free 3
  have f14 := z1.free 4
  have g14 := r1.free 4
  have hB1 := below_pass (below2' w _ _) (by simp; omega) hb1
  go_wp2_with (go_at_call 18; refine (refLive_any _ true (live_yes (by omega)) _).mono ?_; rintro e w2 ⟨rfl, rfl⟩)
  all_goals exact bodyPost_ret (v := .tuple #[.agg #[.int .i64 0, .int .i64 0, .int .i64 0, .bool false, .bool false], .int .i64 100]) (by simp [results, Tryd.results11, go_sem, *]) rfl ⟨rfl, by exact set5 hB1 (by omega) _ _ _ _ _⟩

set_option maxHeartbeats 800000 in
theorem refNext_x4 (a l : Int) (x : Bool) (g : Int) (t0 : (g == 4) = false) (t1 : (g == 5) = false) (t2 : (g == 6) = false) (t3 : (g == 8) = false) (hR : Lif.right ⟨4, a, l, x, false⟩ = true) (w : World) :
    Calls Tryd.prog 11 #[.agg #[.int .i64 4, .int .i64 a, .int .i64 l, .bool x, .bool false], .int .i64 g] w (SaysNext (⟨0, 0, 0, false, false⟩, 100) w) := by
  go_enter Tryd.func11, Tryd.ntmps11
  go_wp2_with fail
  refine (calls_bool (refRight_any 4 a l x false) hR _).mono ?_
  rintro e w1 ⟨rfl, hb1⟩
  have z1 := ((Bk.newAt (t := 24) (cs := #[.int .i64 4, .int .i64 a, .int .i64 l, .bool x, .bool false]) (g := w.heap.size) (W := w) rfl).alloc (.cells #[.int .i64 0, .int .i64 0, .int .i64 0, .bool false, .bool false] 24)).pass hb1
  have r1 := (Bk.newAt (t := 24) (cs := #[.int .i64 0, .int .i64 0, .int .i64 0, .bool false, .bool false]) (g := w.heap.size + 1) (W := w.alloc (.cells #[.int .i64 4, .int .i64 a, .int .i64 l, .bool x, .bool false] 24)) (by simp)).pass hb1
  have c10 := z1.cell (i := 0) rfl
  have c11 := z1.cell (i := 1) rfl
  have c12 := z1.cell (i := 2) rfl
  have c13 := z1.cell (i := 3) rfl
  have c14 := z1.cell (i := 4) rfl
  simp at c10 c11 c12 c13 c14
  have d10 := r1.cell (i := 0) rfl
  have d11 := r1.cell (i := 1) rfl
  have d12 := r1.cell (i := 2) rfl
  have d13 := r1.cell (i := 3) rfl
  have d14 := r1.cell (i := 4) rfl
  simp at d10 d11 d12 d13 d14
  have f10 := z1.free 0
  have g10 := r1.free 0
  have f11 := z1.free 1
  have g11 := r1.free 1
  have f12 := z1.free 2
  have g12 := r1.free 2
  have f13 := z1.free 3
  have g13 := r1.free 3
  have f14 := z1.free 4
  have g14 := r1.free 4
  have hB1 := below_pass (below2' w _ _) (by simp; omega) hb1
  go_wp2_with (go_at_call 18; refine (refLive_any _ true (live_yes (by omega)) _).mono ?_; rintro e w2 ⟨rfl, rfl⟩)
  all_goals exact bodyPost_ret (v := .tuple #[.agg #[.int .i64 0, .int .i64 0, .int .i64 0, .bool false, .bool false], .int .i64 100]) (by simp [results, Tryd.results11, go_sem, *]) rfl ⟨rfl, by exact set5 hB1 (by omega) _ _ _ _ _⟩

set_option maxHeartbeats 800000 in
theorem refNext_x4t (a l : Int) (x : Bool) (g : Int) (t0 : (g == 4) = false) (t1 : (g == 5) = false) (t2 : (g == 8) = false) (hR : Lif.right ⟨4, a, l, x, true⟩ = true) (w : World) :
    Calls Tryd.prog 11 #[.agg #[.int .i64 4, .int .i64 a, .int .i64 l, .bool x, .bool true], .int .i64 g] w (SaysNext (⟨0, 0, 0, false, false⟩, 100) w) := by
  go_enter Tryd.func11, Tryd.ntmps11
  go_wp2_with fail
  refine (calls_bool (refRight_any 4 a l x true) hR _).mono ?_
  rintro e w1 ⟨rfl, hb1⟩
  have z1 := ((Bk.newAt (t := 24) (cs := #[.int .i64 4, .int .i64 a, .int .i64 l, .bool x, .bool true]) (g := w.heap.size) (W := w) rfl).alloc (.cells #[.int .i64 0, .int .i64 0, .int .i64 0, .bool false, .bool false] 24)).pass hb1
  have r1 := (Bk.newAt (t := 24) (cs := #[.int .i64 0, .int .i64 0, .int .i64 0, .bool false, .bool false]) (g := w.heap.size + 1) (W := w.alloc (.cells #[.int .i64 4, .int .i64 a, .int .i64 l, .bool x, .bool true] 24)) (by simp)).pass hb1
  have c10 := z1.cell (i := 0) rfl
  have c11 := z1.cell (i := 1) rfl
  have c12 := z1.cell (i := 2) rfl
  have c13 := z1.cell (i := 3) rfl
  have c14 := z1.cell (i := 4) rfl
  simp at c10 c11 c12 c13 c14
  have d10 := r1.cell (i := 0) rfl
  have d11 := r1.cell (i := 1) rfl
  have d12 := r1.cell (i := 2) rfl
  have d13 := r1.cell (i := 3) rfl
  have d14 := r1.cell (i := 4) rfl
  simp at d10 d11 d12 d13 d14
  have f10 := z1.free 0
  have g10 := r1.free 0
  have f11 := z1.free 1
  have g11 := r1.free 1
  have f12 := z1.free 2
  have g12 := r1.free 2
  have f13 := z1.free 3
  have g13 := r1.free 3
  have f14 := z1.free 4
  have g14 := r1.free 4
  have hB1 := below_pass (below2' w _ _) (by simp; omega) hb1
  go_wp2_with (go_at_call 18; refine (refLive_any _ true (live_yes (by omega)) _).mono ?_; rintro e w2 ⟨rfl, rfl⟩)
  all_goals exact bodyPost_ret (v := .tuple #[.agg #[.int .i64 0, .int .i64 0, .int .i64 0, .bool false, .bool false], .int .i64 100]) (by simp [results, Tryd.results11, go_sem, *]) rfl ⟨rfl, by exact set5 hB1 (by omega) _ _ _ _ _⟩

set_option maxHeartbeats 800000 in
theorem refNext_x5 (s a l : Int) (x y : Bool) (g : Int) (hlv : Lif.live s = false) (t0 : (s == 1) = false) (t1 : (s == 2) = false) (t2 : (s == 3) = false) (t3 : (s == 4) = false) (hR : Lif.right ⟨s, a, l, x, y⟩ = true) (w : World) :
    Calls Tryd.prog 11 #[.agg #[.int .i64 s, .int .i64 a, .int .i64 l, .bool x, .bool y], .int .i64 g] w (SaysNext (⟨0, 0, 0, false, false⟩, 100) w) := by
  go_enter Tryd.func11, Tryd.ntmps11
  go_wp2_with fail
  refine (calls_bool (refRight_any s a l x y) hR _).mono ?_
  rintro e w1 ⟨rfl, hb1⟩
  have z1 := ((Bk.newAt (t := 24) (cs := #[.int .i64 s, .int .i64 a, .int .i64 l, .bool x, .bool y]) (g := w.heap.size) (W := w) rfl).alloc (.cells #[.int .i64 0, .int .i64 0, .int .i64 0, .bool false, .bool false] 24)).pass hb1
  have r1 := (Bk.newAt (t := 24) (cs := #[.int .i64 0, .int .i64 0, .int .i64 0, .bool false, .bool false]) (g := w.heap.size + 1) (W := w.alloc (.cells #[.int .i64 s, .int .i64 a, .int .i64 l, .bool x, .bool y] 24)) (by simp)).pass hb1
  have c10 := z1.cell (i := 0) rfl
  have c11 := z1.cell (i := 1) rfl
  have c12 := z1.cell (i := 2) rfl
  have c13 := z1.cell (i := 3) rfl
  have c14 := z1.cell (i := 4) rfl
  simp at c10 c11 c12 c13 c14
  have d10 := r1.cell (i := 0) rfl
  have d11 := r1.cell (i := 1) rfl
  have d12 := r1.cell (i := 2) rfl
  have d13 := r1.cell (i := 3) rfl
  have d14 := r1.cell (i := 4) rfl
  simp at d10 d11 d12 d13 d14
  have f10 := z1.free 0
  have g10 := r1.free 0
  have f11 := z1.free 1
  have g11 := r1.free 1
  have f12 := z1.free 2
  have g12 := r1.free 2
  have f13 := z1.free 3
  have g13 := r1.free 3
  have f14 := z1.free 4
  have g14 := r1.free 4
  have hB1 := below_pass (below2' w _ _) (by simp; omega) hb1
  go_wp2_with (go_at_call 18; refine (refLive_any _ false hlv _).mono ?_; rintro e w2 ⟨rfl, rfl⟩)
  all_goals exact bodyPost_ret (v := .tuple #[.agg #[.int .i64 0, .int .i64 0, .int .i64 0, .bool false, .bool false], .int .i64 100]) (by simp [results, Tryd.results11, go_sem, *]) rfl ⟨rfl, by exact set5 hB1 (by omega) _ _ _ _ _⟩

set_option maxHeartbeats 800000 in
theorem refNext_e8 (a l : Int) (x y : Bool) (hl : l ≤ 9223372036854775807) (hR : Lif.right ⟨4, a, l, x, y⟩ = true) (q : Lif.Life) (hq : Lif.ended ⟨4, a, l, x, y⟩ = q) (w : World) :
    Calls Tryd.prog 11 #[.agg #[.int .i64 4, .int .i64 a, .int .i64 l, .bool x, .bool y], .int .i64 8] w (SaysNext (q, 0) w) := by
  go_enter Tryd.func11, Tryd.ntmps11
  go_wp2_with fail
  refine (calls_bool (refRight_any 4 a l x y) hR _).mono ?_
  rintro e w1 ⟨rfl, hb1⟩
  have z1 := ((Bk.newAt (t := 24) (cs := #[.int .i64 4, .int .i64 a, .int .i64 l, .bool x, .bool y]) (g := w.heap.size) (W := w) rfl).alloc (.cells #[.int .i64 0, .int .i64 0, .int .i64 0, .bool false, .bool false] 24)).pass hb1
  have r1 := (Bk.newAt (t := 24) (cs := #[.int .i64 0, .int .i64 0, .int .i64 0, .bool false, .bool false]) (g := w.heap.size + 1) (W := w.alloc (.cells #[.int .i64 4, .int .i64 a, .int .i64 l, .bool x, .bool y] 24)) (by simp)).pass hb1
  have c10 := z1.cell (i := 0) rfl
  have c11 := z1.cell (i := 1) rfl
  have c12 := z1.cell (i := 2) rfl
  have c13 := z1.cell (i := 3) rfl
  have c14 := z1.cell (i := 4) rfl
  simp at c10 c11 c12 c13 c14
  have d10 := r1.cell (i := 0) rfl
  have d11 := r1.cell (i := 1) rfl
  have d12 := r1.cell (i := 2) rfl
  have d13 := r1.cell (i := 3) rfl
  have d14 := r1.cell (i := 4) rfl
  simp at d10 d11 d12 d13 d14
  have f10 := z1.free 0
  have g10 := r1.free 0
  have f11 := z1.free 1
  have g11 := r1.free 1
  have f12 := z1.free 2
  have g12 := r1.free 2
  have f13 := z1.free 3
  have g13 := r1.free 3
  have f14 := z1.free 4
  have g14 := r1.free 4
  have hB1 := below_pass (below2' w _ _) (by simp; omega) hb1
  go_wp2_with (go_at_call 18; refine (refLive_any _ true (live_yes (by omega)) _).mono ?_; rintro e w2 ⟨rfl, rfl⟩)
  refine (refover_any 4 a l x y hl q hq _).mono ?_
  rintro e w3 ⟨rfl, hb2⟩
  have r2 := r1.pass hb2
  have d20 := r2.cell (i := 0) rfl
  have d21 := r2.cell (i := 1) rfl
  have d22 := r2.cell (i := 2) rfl
  have d23 := r2.cell (i := 3) rfl
  have d24 := r2.cell (i := 4) rfl
  have g20 := r2.free 0
  have g21 := r2.free 1
  have g22 := r2.free 2
  have g23 := r2.free 3
  have g24 := r2.free 4
  have hB2 := below_pass hB1 hB1.size hb2
  go_wp2_with fail
  exact bodyPost_ret (v := .tuple #[.agg #[.int .i64 q.st, .int .i64 q.at_, .int .i64 q.lf, .bool q.wall, .bool q.stop], .int .i64 0]) (by simp [results, Tryd.results11, go_sem, *]) rfl ⟨rfl, set5 hB2 (by omega) _ _ _ _ _⟩

end Go.Proofs.YtmpggfcceepccaaDoor
