/- Walk of life.Next. -/
import Derived.Test.YtmpggfcceepccaaDoorWb
namespace Go.Proofs.YtmpggfcceepccaaDoor
open Go.RowKit

theorem set5 {B : Nat} {a w : World} (h : Below B a w) {g : Nat} (hg : B ≤ g) (v0 v1 v2 v3 v4 : Value) : Below B a (((((w.setCell ⟨g, 0, none⟩ v0).setCell ⟨g, 1, none⟩ v1).setCell ⟨g, 2, none⟩ v2).setCell ⟨g, 3, none⟩ v3).setCell ⟨g, 4, none⟩ v4) :=
  ((((h.setCell hg _).setCell hg _).setCell hg _).setCell hg _).setCell hg _

def SaysNext (q : Lif.Life × Int) (w : World) (e : Ending) (w' : World) : Prop :=
  e = .returned (.tuple #[.agg #[.int .i64 q.1.st, .int .i64 q.1.at_, .int .i64 q.1.lf, .bool q.1.wall, .bool q.1.stop], .int .i64 q.2]) ∧ Below w.heap.size w w'

theorem calls_bool {P : Program} {f : Nat} {args : Array Value} {b c : Bool} (h : ∀ w, Calls P f args w fun e w' => e = .returned (.bool b) ∧ Below w.heap.size w w') (hb : b = c) (w : World) : Calls P f args w fun e w' => e = .returned (.bool c) ∧ Below w.heap.size w w' := by subst hb; exact h w

set_option maxHeartbeats 800000 in
theorem next_bad (s a l : Int) (x y : Bool) (g : Int) (ha : -9223372036854775808 ≤ a ∧ a ≤ 9223372036854775807) (hR : Lif.right ⟨s, a, l, x, y⟩ = false) (w : World) :
    Calls Tryd.prog 10 #[.agg #[.int .i64 s, .int .i64 a, .int .i64 l, .bool x, .bool y], .int .i64 g] w (SaysNext (Lif.zero, 1) w) := by
  go_enter Tryd.func10, Tryd.ntmps10
  go_wp2_with fail
  refine (calls_bool (right_any s a l x y (by constructor <;> omega)) hR _).mono ?_
  rintro e w1 ⟨rfl, hb1⟩
  have z1 := ((Bk.newAt (t := 24) (cs := #[.int .i64 s, .int .i64 a, .int .i64 l, .bool x, .bool y]) (g := w.heap.size) (W := w) rfl).alloc (.cells #[.int .i64 0, .int .i64 0, .int .i64 0, .bool false, .bool false] 24)).pass hb1
  have r1 := (Bk.newAt (t := 24) (cs := #[.int .i64 0, .int .i64 0, .int .i64 0, .bool false, .bool false]) (g := w.heap.size + 1) (W := w.alloc (.cells #[.int .i64 s, .int .i64 a, .int .i64 l, .bool x, .bool y] 24)) (by simp)).pass hb1
  have c10 := z1.cell (i := 0) rfl
  have c11 := z1.cell (i := 1) rfl
  have c12 := z1.cell (i := 2) rfl
  have c13 := z1.cell (i := 3) rfl
  have c14 := z1.cell (i := 4) rfl
  simp at c10 c11 c12 c13 c14
  have d10 := r1.cell (i := 0) rfl
  have d11 := r1.cell (i := 1) rfl
  have d12 := r1.cell (i := 2) rfl
  have d13 := r1.cell (i := 3) rfl
  have d14 := r1.cell (i := 4) rfl
  simp at d10 d11 d12 d13 d14
  have f10 := z1.free 0
  have g10 := r1.free 0
  have f11 := z1.free 1
  have g11 := r1.free 1
  have f12 := z1.free 2
  have g12 := r1.free 2
  have f13 := z1.free 3
  have g13 := r1.free 3
  have f14 := z1.free 4
  have g14 := r1.free 4
  have hB1 := below_pass (below2' w _ _) (by simp; omega) hb1
  go_wp2_with fail
  exact bodyPost_ret (v := .tuple #[.agg #[.int .i64 0, .int .i64 0, .int .i64 0, .bool false, .bool false], .int .i64 1]) (by simp [results, Tryd.results10, go_sem, d10, d11, d12, d13, d14]) rfl ⟨rfl, set5 hB1 (by omega) _ _ _ _ _⟩

set_option maxHeartbeats 1600000 in
theorem next_wait (s a l : Int) (x y : Bool) (g : Int) (ha : 0 ≤ a ∧ a ≤ 100) (hR : Lif.right ⟨s, a, l, x, y⟩ = true) (hW : Lif.waits s = true) (u : Lif.Life) (b : Bool) (hu : Lif.waiting ⟨s, a, l, x, y⟩ g = (u, b)) (q : Lif.Life × Int) (hT : b = true → q = (u, 0)) (hF : b = false → q = (Lif.zero, 100)) (w : World) :
    Calls Tryd.prog 10 #[.agg #[.int .i64 s, .int .i64 a, .int .i64 l, .bool x, .bool y], .int .i64 g] w (SaysNext q w) := by
  go_enter Tryd.func10, Tryd.ntmps10
  go_wp2_with fail
  refine (calls_bool (right_any s a l x y (by constructor <;> omega)) hR _).mono ?_
  rintro e w1 ⟨rfl, hb1⟩
  have z1 := ((Bk.newAt (t := 24) (cs := #[.int .i64 s, .int .i64 a, .int .i64 l, .bool x, .bool y]) (g := w.heap.size) (W := w) rfl).alloc (.cells #[.int .i64 0, .int .i64 0, .int .i64 0, .bool false, .bool false] 24)).pass hb1
  have r1 := (Bk.newAt (t := 24) (cs := #[.int .i64 0, .int .i64 0, .int .i64 0, .bool false, .bool false]) (g := w.heap.size + 1) (W := w.alloc (.cells #[.int .i64 s, .int .i64 a, .int .i64 l, .bool x, .bool y] 24)) (by simp)).pass hb1
  have c10 := z1.cell (i := 0) rfl
  have c11 := z1.cell (i := 1) rfl
  have c12 := z1.cell (i := 2) rfl
  have c13 := z1.cell (i := 3) rfl
  have c14 := z1.cell (i := 4) rfl
  simp at c10 c11 c12 c13 c14
  have d10 := r1.cell (i := 0) rfl
  have d11 := r1.cell (i := 1) rfl
  have d12 := r1.cell (i := 2) rfl
  have d13 := r1.cell (i := 3) rfl
  have d14 := r1.cell (i := 4) rfl
  simp at d10 d11 d12 d13 d14
  have f10 := z1.free 0
  have g10 := r1.free 0
  have f11 := z1.free 1
  have g11 := r1.free 1
  have f12 := z1.free 2
  have g12 := r1.free 2
  have f13 := z1.free 3
  have g13 := r1.free 3
  have f14 := z1.free 4
  have g14 := r1.free 4
  have hB1 := below_pass (below2' w _ _) (by simp; omega) hb1
  go_wp2_with fail
  refine (waits_any _ true hW _).mono ?_
  rintro e w2 ⟨rfl, rfl⟩
  go_wp2_with fail
  refine (waiting_any s a l x y g ha (u, b) hu _).mono ?_
  rintro e w3 ⟨rfl, hb2⟩
  have z2 := z1.pass hb2
  have r2 := r1.pass hb2
  have c20 := z2.cell (i := 0) rfl
  have c21 := z2.cell (i := 1) rfl
  have c22 := z2.cell (i := 2) rfl
  have c23 := z2.cell (i := 3) rfl
  have c24 := z2.cell (i := 4) rfl
  simp at c20 c21 c22 c23 c24
  have d20 := r2.cell (i := 0) rfl
  have d21 := r2.cell (i := 1) rfl
  have d22 := r2.cell (i := 2) rfl
  have d23 := r2.cell (i := 3) rfl
  have d24 := r2.cell (i := 4) rfl
  simp at d20 d21 d22 d23 d24
  have f20 := z2.free 0
  have g20 := r2.free 0
  have f21 := z2.free 1
  have g21 := r2.free 1
  have f22 := z2.free 2
  have g22 := r2.free 2
  have f23 := z2.free 3
  have g23 := r2.free 3
  have f24 := z2.free 4
  have g24 := r2.free 4
  have hB2 := below_pass hB1 hB1.size hb2
  cases b
  · obtain rfl := hF rfl
    go_wp2_with fail
    exact bodyPost_ret (v := .tuple #[.agg #[.int .i64 0, .int .i64 0, .int .i64 0, .bool false, .bool false], .int .i64 100]) (by simp [results, Tryd.results10, go_sem, d20, d21, d22, d23, d24]) rfl ⟨rfl, set5 (set5 hB2 (by omega) _ _ _ _ _) (by omega) _ _ _ _ _⟩
  · obtain rfl := hT rfl
    go_wp2_with fail
    exact bodyPost_ret (v := .tuple #[.agg #[.int .i64 u.st, .int .i64 u.at_, .int .i64 u.lf, .bool u.wall, .bool u.stop], .int .i64 0]) (by simp [results, Tryd.results10, go_sem, d20, d21, d22, d23, d24]) rfl ⟨rfl, set5 (set5 hB2 (by omega) _ _ _ _ _) (by omega) _ _ _ _ _⟩

set_option maxHeartbeats 1600000 in
theorem next_live (s a l : Int) (x y : Bool) (g : Int) (ha : 0 ≤ a ∧ a ≤ 100) (hl : l ≤ 100) (hR : Lif.right ⟨s, a, l, x, y⟩ = true) (hW : Lif.waits s = false) (hL : Lif.live s = true) (u : Lif.Life) (b : Bool) (hu : Lif.living ⟨s, a, l, x, y⟩ g = (u, b)) (q : Lif.Life × Int) (hT : b = true → q = (u, 0)) (hF : b = false → q = (Lif.zero, 100)) (w : World) :
    Calls Tryd.prog 10 #[.agg #[.int .i64 s, .int .i64 a, .int .i64 l, .bool x, .bool y], .int .i64 g] w (SaysNext q w) := by
  go_enter Tryd.func10, Tryd.ntmps10
  go_wp2_with fail
  refine (calls_bool (right_any s a l x y (by constructor <;> omega)) hR _).mono ?_
  rintro e w1 ⟨rfl, hb1⟩
  have z1 := ((Bk.newAt (t := 24) (cs := #[.int .i64 s, .int .i64 a, .int .i64 l, .bool x, .bool y]) (g := w.heap.size) (W := w) rfl).alloc (.cells #[.int .i64 0, .int .i64 0, .int .i64 0, .bool false, .bool false] 24)).pass hb1
  have r1 := (Bk.newAt (t := 24) (cs := #[.int .i64 0, .int .i64 0, .int .i64 0, .bool false, .bool false]) (g := w.heap.size + 1) (W := w.alloc (.cells #[.int .i64 s, .int .i64 a, .int .i64 l, .bool x, .bool y] 24)) (by simp)).pass hb1
  have c10 := z1.cell (i := 0) rfl
  have c11 := z1.cell (i := 1) rfl
  have c12 := z1.cell (i := 2) rfl
  have c13 := z1.cell (i := 3) rfl
  have c14 := z1.cell (i := 4) rfl
  simp at c10 c11 c12 c13 c14
  have d10 := r1.cell (i := 0) rfl
  have d11 := r1.cell (i := 1) rfl
  have d12 := r1.cell (i := 2) rfl
  have d13 := r1.cell (i := 3) rfl
  have d14 := r1.cell (i := 4) rfl
  simp at d10 d11 d12 d13 d14
  have f10 := z1.free 0
  have g10 := r1.free 0
  have f11 := z1.free 1
  have g11 := r1.free 1
  have f12 := z1.free 2
  have g12 := r1.free 2
  have f13 := z1.free 3
  have g13 := r1.free 3
  have f14 := z1.free 4
  have g14 := r1.free 4
  have hB1 := below_pass (below2' w _ _) (by simp; omega) hb1
  go_wp2_with fail
  refine (waits_any _ false hW _).mono ?_
  rintro e w2 ⟨rfl, rfl⟩
  go_wp2_with fail
  refine (live_any _ true hL _).mono ?_
  rintro e w2 ⟨rfl, rfl⟩
  go_wp2_with fail
  refine (living_any s a l x y g (by omega) (u, b) hu _).mono ?_
  rintro e w3 ⟨rfl, hb2⟩
  have z2 := z1.pass hb2
  have r2 := r1.pass hb2
  have c20 := z2.cell (i := 0) rfl
  have c21 := z2.cell (i := 1) rfl
  have c22 := z2.cell (i := 2) rfl
  have c23 := z2.cell (i := 3) rfl
  have c24 := z2.cell (i := 4) rfl
  simp at c20 c21 c22 c23 c24
  have d20 := r2.cell (i := 0) rfl
  have d21 := r2.cell (i := 1) rfl
  have d22 := r2.cell (i := 2) rfl
  have d23 := r2.cell (i := 3) rfl
  have d24 := r2.cell (i := 4) rfl
  simp at d20 d21 d22 d23 d24
  have f20 := z2.free 0
  have g20 := r2.free 0
  have f21 := z2.free 1
  have g21 := r2.free 1
  have f22 := z2.free 2
  have g22 := r2.free 2
  have f23 := z2.free 3
  have g23 := r2.free 3
  have f24 := z2.free 4
  have g24 := r2.free 4
  have hB2 := below_pass hB1 hB1.size hb2
  cases b
  · obtain rfl := hF rfl
    go_wp2_with fail
    exact bodyPost_ret (v := .tuple #[.agg #[.int .i64 0, .int .i64 0, .int .i64 0, .bool false, .bool false], .int .i64 100]) (by simp [results, Tryd.results10, go_sem, d20, d21, d22, d23, d24]) rfl ⟨rfl, set5 (set5 hB2 (by omega) _ _ _ _ _) (by omega) _ _ _ _ _⟩
  · obtain rfl := hT rfl
    go_wp2_with fail
    exact bodyPost_ret (v := .tuple #[.agg #[.int .i64 u.st, .int .i64 u.at_, .int .i64 u.lf, .bool u.wall, .bool u.stop], .int .i64 0]) (by simp [results, Tryd.results10, go_sem, d20, d21, d22, d23, d24]) rfl ⟨rfl, set5 (set5 hB2 (by omega) _ _ _ _ _) (by omega) _ _ _ _ _⟩

set_option maxHeartbeats 800000 in
theorem next_over (s a l : Int) (x y : Bool) (g : Int) (ha : 0 ≤ a ∧ a ≤ 100) (hR : Lif.right ⟨s, a, l, x, y⟩ = true) (hW : Lif.waits s = false) (hL : Lif.live s = false) (w : World) :
    Calls Tryd.prog 10 #[.agg #[.int .i64 s, .int .i64 a, .int .i64 l, .bool x, .bool y], .int .i64 g] w (SaysNext (Lif.zero, 100) w) := by
  go_enter Tryd.func10, Tryd.ntmps10
  go_wp2_with fail
  refine (calls_bool (right_any s a l x y (by constructor <;> omega)) hR _).mono ?_
  rintro e w1 ⟨rfl, hb1⟩
  have z1 := ((Bk.newAt (t := 24) (cs := #[.int .i64 s, .int .i64 a, .int .i64 l, .bool x, .bool y]) (g := w.heap.size) (W := w) rfl).alloc (.cells #[.int .i64 0, .int .i64 0, .int .i64 0, .bool false, .bool false] 24)).pass hb1
  have r1 := (Bk.newAt (t := 24) (cs := #[.int .i64 0, .int .i64 0, .int .i64 0, .bool false, .bool false]) (g := w.heap.size + 1) (W := w.alloc (.cells #[.int .i64 s, .int .i64 a, .int .i64 l, .bool x, .bool y] 24)) (by simp)).pass hb1
  have c10 := z1.cell (i := 0) rfl
  have c11 := z1.cell (i := 1) rfl
  have c12 := z1.cell (i := 2) rfl
  have c13 := z1.cell (i := 3) rfl
  have c14 := z1.cell (i := 4) rfl
  simp at c10 c11 c12 c13 c14
  have d10 := r1.cell (i := 0) rfl
  have d11 := r1.cell (i := 1) rfl
  have d12 := r1.cell (i := 2) rfl
  have d13 := r1.cell (i := 3) rfl
  have d14 := r1.cell (i := 4) rfl
  simp at d10 d11 d12 d13 d14
  have f10 := z1.free 0
  have g10 := r1.free 0
  have f11 := z1.free 1
  have g11 := r1.free 1
  have f12 := z1.free 2
  have g12 := r1.free 2
  have f13 := z1.free 3
  have g13 := r1.free 3
  have f14 := z1.free 4
  have g14 := r1.free 4
  have hB1 := below_pass (below2' w _ _) (by simp; omega) hb1
  go_wp2_with fail
  refine (waits_any _ false hW _).mono ?_
  rintro e w2 ⟨rfl, rfl⟩
  go_wp2_with fail
  refine (live_any _ false hL _).mono ?_
  rintro e w2 ⟨rfl, rfl⟩
  go_wp2_with fail
  exact bodyPost_ret (v := .tuple #[.agg #[.int .i64 0, .int .i64 0, .int .i64 0, .bool false, .bool false], .int .i64 100]) (by simp [results, Tryd.results10, go_sem, d10, d11, d12, d13, d14]) rfl ⟨rfl, set5 hB1 (by omega) _ _ _ _ _⟩

/-- LIFE.NEXT: what the plain law says. -/
theorem next_any (s a l : Int) (x y : Bool) (g : Int) (ha : -9223372036854775808 ≤ a ∧ a ≤ 9223372036854775807) (q : Lif.Life × Int) (hq : Lif.next ⟨s, a, l, x, y⟩ g = q) (w : World) :
    Calls Tryd.prog 10 #[.agg #[.int .i64 s, .int .i64 a, .int .i64 l, .bool x, .bool y], .int .i64 g] w (SaysNext q w) := by
  by_cases hR : Lif.right ⟨s, a, l, x, y⟩ = true
  · have hRt := Lif.right_iff.1 hR
    have hm : Lif.most s ≤ 6 := by unfold Lif.most; split <;> omega
    unfold Lif.Rt at hRt
    simp only at hRt
    have h1 : 0 ≤ a ∧ a ≤ 100 := by omega
    have h2 : l ≤ 100 := by omega
    clear hRt hm
    by_cases hW : Lif.waits s = true
    · have e : q = if (Lif.waiting ⟨s, a, l, x, y⟩ g).2 = true then ((Lif.waiting ⟨s, a, l, x, y⟩ g).1, 0) else (Lif.zero, 100) := by
        rw [← hq]; unfold Lif.next; simp only [hR, hW, if_true]
      rw [e]
      exact next_wait s a l x y g h1 hR hW _ _ rfl _ (fun h => if_pos h) (fun h => if_neg (by simp [h])) w
    · have hW : Lif.waits s = false := by simpa using hW
      by_cases hL : Lif.live s = true
      · have e : q = if (Lif.living ⟨s, a, l, x, y⟩ g).2 = true then ((Lif.living ⟨s, a, l, x, y⟩ g).1, 0) else (Lif.zero, 100) := by
          rw [← hq]; unfold Lif.next; simp only [hR, hW, hL, if_true]; simp
        rw [e]
        exact next_live s a l x y g h1 h2 hR hW hL _ _ rfl _ (fun h => if_pos h) (fun h => if_neg (by simp [h])) w
      · have hL : Lif.live s = false := by simpa using hL
        obtain rfl : q = (Lif.zero, 100) := by rw [← hq]; unfold Lif.next; simp only [hR, hW, hL, if_true]; simp
        exact next_over s a l x y g h1 hR hW hL w
  · have hR : Lif.right ⟨s, a, l, x, y⟩ = false := by simpa using hR
    obtain rfl : q = (Lif.zero, 1) := by rw [← hq]; unfold Lif.next; simp only [hR]; simp
    exact next_bad s a l x y g ha hR w

end Go.Proofs.YtmpggfcceepccaaDoor
