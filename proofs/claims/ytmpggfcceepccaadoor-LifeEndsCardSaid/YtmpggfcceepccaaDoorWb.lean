/- Walks of life.New, ended, waiting, living. -/
import Derived.Test.YtmpggfcceepccaaDoorWa
import Derived.Test.YtmpggfcceepccaaDoorLifN
namespace Go.Proofs.YtmpggfcceepccaaDoor
open Go.RowKit

theorem below1 (w : World) (o : Obj) : Below w.heap.size w (w.alloc o) := (Below.refl _ _).alloc (Nat.le_refl _) _
theorem below2' (w : World) (o p : Obj) : Below w.heap.size w ((w.alloc o).alloc p) := (below1 w o).alloc (by simp) _
theorem below3' (w : World) (o p r : Obj) : Below w.heap.size w (((w.alloc o).alloc p).alloc r) := (below2' w o p).alloc (by simp; omega) _
theorem below4' (w : World) (o p r t : Obj) : Below w.heap.size w ((((w.alloc o).alloc p).alloc r).alloc t) := (below3' w o p r).alloc (by simp; omega) _

set_option maxHeartbeats 400000 in
theorem new_any (r : Int) (h : Bool) (q : Lif.Life × Int) (hq : Lif.fresh r h = q) (w : World) : Calls Tryd.prog 20 #[.int .i64 r, .bool h] w fun e w' =>
    e = .returned (.tuple #[.agg #[.int .i64 q.1.st, .int .i64 q.1.at_, .int .i64 q.1.lf, .bool q.1.wall, .bool q.1.stop], .int .i64 q.2]) ∧ Below w.heap.size w w' := by
  by_cases c : r < 0 ∨ 5 < r
  · obtain rfl : q = (⟨0, 0, 0, false, false⟩, 1) := hq.symm.trans (if_pos c)
    go_enter Tryd.func20, Tryd.ntmps20
    go_wp2
    all_goals exact bodyPost_ret (v := .tuple #[.agg #[.int .i64 (0), .int .i64 (0), .int .i64 (0), .bool false, .bool false], .int .i64 1]) (by simp [results, Tryd.results20, go_sem]) rfl ⟨rfl, below1 _ _⟩
  · have hq2 := hq.symm.trans (if_neg c)
    have c0 : 0 ≤ r := by omega
    have c5 : r ≤ 5 := by omega
    clear c
    cases h
    · obtain rfl : q = (⟨1, 0, r, false, false⟩, 0) := hq2
      go_enter Tryd.func20, Tryd.ntmps20
      go_wp2
      all_goals exact bodyPost_ret (v := .tuple #[.agg #[.int .i64 (1), .int .i64 (0), .int .i64 (r), .bool false, .bool false], .int .i64 0]) (by simp [results, Tryd.results20, go_sem]) rfl ⟨rfl, below1 _ _⟩
    · obtain rfl : q = (⟨2, 0, r, false, false⟩, 0) := hq2
      go_enter Tryd.func20, Tryd.ntmps20
      go_wp2
      all_goals exact bodyPost_ret (v := .tuple #[.agg #[.int .i64 (2), .int .i64 (0), .int .i64 (r), .bool false, .bool false], .int .i64 0]) (by simp [results, Tryd.results20, go_sem]) rfl ⟨rfl, below1 _ _⟩

set_option maxHeartbeats 400000 in
theorem ended_any (s a l : Int) (x y : Bool) (hl : l ≤ 9223372036854775807) (q : Lif.Life) (hq : Lif.ended ⟨s, a, l, x, y⟩ = q) (w : World) : Calls Tryd.prog 26 #[.agg #[.int .i64 s, .int .i64 a, .int .i64 l, .bool x, .bool y]] w fun e w' =>
    e = .returned (.agg #[.int .i64 q.st, .int .i64 q.at_, .int .i64 q.lf, .bool q.wall, .bool q.stop]) ∧ Below w.heap.size w w' := by
  cases y
  · cases x
    · by_cases c : 0 < l
      · obtain rfl : q = ⟨1, a, l - 1, false, false⟩ := by rw [← hq]; simp [Lif.ended, c]
        go_enter Tryd.func26, Tryd.ntmps26
        go_wp2
        all_goals exact bodyPost_ret (v := .agg #[.int .i64 (1), .int .i64 (a), .int .i64 (l - 1), .bool false, .bool false]) (by simp [results, Tryd.results26, go_sem]) rfl ⟨rfl, below2' _ _ _⟩
      · obtain rfl : q = ⟨7, a, l, false, false⟩ := by rw [← hq]; simp [Lif.ended, c]
        go_enter Tryd.func26, Tryd.ntmps26
        go_wp2
        all_goals exact bodyPost_ret (v := .agg #[.int .i64 (7), .int .i64 (a), .int .i64 (l), .bool false, .bool false]) (by simp [results, Tryd.results26, go_sem]) rfl ⟨rfl, below2' _ _ _⟩
    · obtain rfl : q = ⟨6, a, l, false, false⟩ := by rw [← hq]; simp [Lif.ended]
      go_enter Tryd.func26, Tryd.ntmps26
      go_wp2
      all_goals exact bodyPost_ret (v := .agg #[.int .i64 (6), .int .i64 (a), .int .i64 (l), .bool false, .bool false]) (by simp [results, Tryd.results26, go_sem]) rfl ⟨rfl, below2' _ _ _⟩
  · obtain rfl : q = ⟨8, a, l, false, false⟩ := by rw [← hq]; simp [Lif.ended]
    go_enter Tryd.func26, Tryd.ntmps26
    go_wp2
    all_goals exact bodyPost_ret (v := .agg #[.int .i64 (8), .int .i64 (a), .int .i64 (l), .bool false, .bool false]) (by simp [results, Tryd.results26, go_sem]) rfl ⟨rfl, below2' _ _ _⟩

set_option maxHeartbeats 800000 in
theorem waiting_any (s a l : Int) (x y : Bool) (g : Int) (ha : 0 ≤ a ∧ a ≤ 100) (q : Lif.Life × Bool) (hq : Lif.waiting ⟨s, a, l, x, y⟩ g = q) (w : World) : Calls Tryd.prog 23 #[.agg #[.int .i64 s, .int .i64 a, .int .i64 l, .bool x, .bool y], .int .i64 g] w fun e w' =>
    e = .returned (.tuple #[.agg #[.int .i64 q.1.st, .int .i64 q.1.at_, .int .i64 q.1.lf, .bool q.1.wall, .bool q.1.stop], .bool q.2]) ∧ Below w.heap.size w w' := by
  have hc : (s = 1 ∧ g = 1) ∨ (s = 2 ∧ g = 2) ∨ (s = 1 ∧ g = 3) ∨ g = 6 ∨ g = 7 ∨ (¬ (s = 1 ∧ g = 1) ∧ ¬ (s = 2 ∧ g = 2) ∧ ¬ (s = 1 ∧ g = 3) ∧ g ≠ 6 ∧ g ≠ 7) := by omega
  rcases hc with ⟨rfl, rfl⟩ | ⟨rfl, rfl⟩ | ⟨rfl, rfl⟩ | rfl | rfl | ⟨n1, n2, n3, n6, n7⟩
  · obtain rfl : q = (⟨2, a, l, x, y⟩, true) := by rw [← hq]; simp [Lif.waiting]
    go_enter Tryd.func23, Tryd.ntmps23
    go_wp2_with fail
    all_goals exact bodyPost_ret (v := .tuple #[.agg #[.int .i64 (2), .int .i64 (a), .int .i64 (l), .bool x, .bool y], .bool true]) (by simp [results, Tryd.results23, go_sem, *]) rfl ⟨rfl, below3' _ _ _ _⟩
  · obtain rfl : q = (⟨1, a, l, x, y⟩, true) := by rw [← hq]; simp [Lif.waiting]
    go_enter Tryd.func23, Tryd.ntmps23
    go_wp2_with fail
    all_goals exact bodyPost_ret (v := .tuple #[.agg #[.int .i64 (1), .int .i64 (a), .int .i64 (l), .bool x, .bool y], .bool true]) (by simp [results, Tryd.results23, go_sem, *]) rfl ⟨rfl, below3' _ _ _ _⟩
  · obtain rfl : q = (⟨3, a + 1, l, x, y⟩, true) := by rw [← hq]; simp [Lif.waiting]
    go_enter Tryd.func23, Tryd.ntmps23
    go_wp2_with fail
    all_goals exact bodyPost_ret (v := .tuple #[.agg #[.int .i64 (3), .int .i64 (a + 1), .int .i64 (l), .bool x, .bool y], .bool true]) (by simp [results, Tryd.results23, go_sem, *]) rfl ⟨rfl, below3' _ _ _ _⟩
  · obtain rfl : q = (⟨8, a, l, x, y⟩, true) := by rw [← hq]; simp [Lif.waiting]
    go_enter Tryd.func23, Tryd.ntmps23
    go_wp2_with fail
    all_goals exact bodyPost_ret (v := .tuple #[.agg #[.int .i64 (8), .int .i64 (a), .int .i64 (l), .bool x, .bool y], .bool true]) (by simp [results, Tryd.results23, go_sem, *]) rfl ⟨rfl, below3' _ _ _ _⟩
  · obtain rfl : q = (⟨8, a, l, x, y⟩, true) := by rw [← hq]; simp [Lif.waiting]
    go_enter Tryd.func23, Tryd.ntmps23
    go_wp2_with fail
    all_goals exact bodyPost_ret (v := .tuple #[.agg #[.int .i64 (8), .int .i64 (a), .int .i64 (l), .bool x, .bool y], .bool true]) (by simp [results, Tryd.results23, go_sem, *]) rfl ⟨rfl, below3' _ _ _ _⟩
  · have t6 : (g == 6) = false := by simpa using n6
    have t7 : (g == 7) = false := by simpa using n7
    obtain rfl : q = (⟨s, a, l, x, y⟩, false) := by rw [← hq]; simp [Lif.waiting, n1, n2, n3, n6, n7]
    go_enter Tryd.func23, Tryd.ntmps23
    go_wp2_with fail
    all_goals exact bodyPost_ret (v := .tuple #[.agg #[.int .i64 (s), .int .i64 (a), .int .i64 (l), .bool x, .bool y], .bool false]) (by simp [results, Tryd.results23, go_sem, *]) rfl ⟨rfl, below3' _ _ _ _⟩

set_option maxHeartbeats 800000 in
theorem living_any (s a l : Int) (x y : Bool) (g : Int) (hl : l ≤ 9223372036854775807) (q : Lif.Life × Bool) (hq : Lif.living ⟨s, a, l, x, y⟩ g = q) (w : World) : Calls Tryd.prog 24 #[.agg #[.int .i64 s, .int .i64 a, .int .i64 l, .bool x, .bool y], .int .i64 g] w fun e w' =>
    e = .returned (.tuple #[.agg #[.int .i64 q.1.st, .int .i64 q.1.at_, .int .i64 q.1.lf, .bool q.1.wall, .bool q.1.stop], .bool q.2]) ∧ Below w.heap.size w w' := by
  have hc : (g = 8 ∧ s = 3) ∨ (g = 8 ∧ s ≠ 3) ∨ g = 4 ∨ g = 5 ∨ g = 6 ∨ (g ≠ 8 ∧ g ≠ 4 ∧ g ≠ 5 ∧ g ≠ 6) := by omega
  rcases hc with ⟨rfl, rfl⟩ | ⟨rfl, n3⟩ | rfl | rfl | rfl | ⟨n8, n4, n5, n6⟩
  · obtain rfl : q = (⟨5, a, l, x, y⟩, true) := by rw [← hq]; simp [Lif.living]
    go_enter Tryd.func24, Tryd.ntmps24
    go_wp2_with fail
    all_goals exact bodyPost_ret (v := .tuple #[.agg #[.int .i64 (5), .int .i64 (a), .int .i64 (l), .bool x, .bool y], .bool true]) (by simp [results, Tryd.results24, go_sem, *]) rfl ⟨rfl, below2' _ _ _⟩
  · have t3 : (s == 3) = false := by simpa using n3
    obtain rfl : q = (Lif.ended ⟨s, a, l, x, y⟩, true) := by rw [← hq]; simp [Lif.living, n3]
    have C := Lib.hid (fun w => ended_any s a l x y hl _ rfl w)
    generalize Lif.ended ⟨s, a, l, x, y⟩ = r at *
    go_enter Tryd.func24, Tryd.ntmps24
    go_wp2_with fail
    refine (C.out _).mono ?_
    rintro e w1 ⟨rfl, hb⟩
    have z := (Bk.newAt (t := 24) (cs := #[.int .i64 0, .int .i64 0, .int .i64 0, .bool false, .bool false]) (g := w.heap.size + 1) (W := w.alloc (.cells #[.int .i64 s, .int .i64 a, .int .i64 l, .bool x, .bool y] 24)) (by simp)).pass hb
    have hB := below_pass (below2' w _ _) (by simp; omega) hb
    have z0 := z.cell (i := 0) rfl
    have z1 := z.cell (i := 1) rfl
    have z2 := z.cell (i := 2) rfl
    have z3 := z.cell (i := 3) rfl
    have z4 := z.cell (i := 4) rfl
    simp at z0 z1 z2 z3 z4
    have f0 := z.free 0
    have f1 := z.free 1
    have f2 := z.free 2
    have f3 := z.free 3
    have f4 := z.free 4
    go_wp2_with fail
    exact bodyPost_ret (v := .tuple #[.agg #[.int .i64 r.st, .int .i64 r.at_, .int .i64 r.lf, .bool r.wall, .bool r.stop], .bool true]) (by simp [results, Tryd.results24, go_sem, z0, z1, z2, z3, z4]) rfl ⟨rfl, ((((hB.setCell (by simp) _).setCell (by simp) _).setCell (by simp) _).setCell (by simp) _).setCell (by simp) _⟩
  · obtain rfl : q = (⟨4, a, l, true, y⟩, true) := by rw [← hq]; simp [Lif.living]
    go_enter Tryd.func24, Tryd.ntmps24
    go_wp2_with fail
    all_goals exact bodyPost_ret (v := .tuple #[.agg #[.int .i64 (4), .int .i64 (a), .int .i64 (l), .bool true, .bool y], .bool true]) (by simp [results, Tryd.results24, go_sem, *]) rfl ⟨rfl, below2' _ _ _⟩
  · obtain rfl : q = (⟨4, a, l, x, y⟩, true) := by rw [← hq]; simp [Lif.living]
    go_enter Tryd.func24, Tryd.ntmps24
    go_wp2_with fail
    all_goals exact bodyPost_ret (v := .tuple #[.agg #[.int .i64 (4), .int .i64 (a), .int .i64 (l), .bool x, .bool y], .bool true]) (by simp [results, Tryd.results24, go_sem, *]) rfl ⟨rfl, below2' _ _ _⟩
  · cases y
    · obtain rfl : q = (⟨4, a, l, x, true⟩, true) := by rw [← hq]; simp [Lif.living]
      go_enter Tryd.func24, Tryd.ntmps24
      go_wp2_with fail
      all_goals exact bodyPost_ret (v := .tuple #[.agg #[.int .i64 (4), .int .i64 (a), .int .i64 (l), .bool x, .bool true], .bool true]) (by simp [results, Tryd.results24, go_sem, *]) rfl ⟨rfl, below2' _ _ _⟩
    · obtain rfl : q = (⟨s, a, l, x, true⟩, false) := by rw [← hq]; simp [Lif.living]
      go_enter Tryd.func24, Tryd.ntmps24
      go_wp2_with fail
      all_goals exact bodyPost_ret (v := .tuple #[.agg #[.int .i64 (s), .int .i64 (a), .int .i64 (l), .bool x, .bool true], .bool false]) (by simp [results, Tryd.results24, go_sem, *]) rfl ⟨rfl, below2' _ _ _⟩
  · have t8 : (g == 8) = false := by simpa using n8
    have t6 : (g == 6) = false := by simpa using n6
    have u6 : (g != 6) = true := by simpa using n6
    have u4 : (g != 4) = true := by simpa using n4
    have u5 : (g != 5) = true := by simpa using n5
    obtain rfl : q = (⟨s, a, l, x, y⟩, false) := by rw [← hq]; simp [Lif.living, n8, n4, n5, n6]
    go_enter Tryd.func24, Tryd.ntmps24
    go_wp2_with fail
    all_goals exact bodyPost_ret (v := .tuple #[.agg #[.int .i64 (s), .int .i64 (a), .int .i64 (l), .bool x, .bool y], .bool false]) (by simp [results, Tryd.results24, go_sem, *]) rfl ⟨rfl, below2' _ _ _⟩

end Go.Proofs.YtmpggfcceepccaaDoor
