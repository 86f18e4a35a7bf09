/- Walks of the life package's small functions. -/
import Derived.Test.YtmpggfcceepccaaDoorRows
import Derived.Test.YtmpggfcceepccaaDoorMem
import Derived.Test.YtmpggfcceepccaaDoorLifM
import Derived.WalkKit
import Derived.WalkSpells
import Derived.WalkLawsBesides
namespace Go.Proofs.YtmpggfcceepccaaDoor
open Go.RowKit

theorem waits_yes {s : Int} (h : s = 1 ∨ s = 2) : Lif.waits s = true := decide_eq_true h
theorem waits_no {s : Int} (h : ¬ (s = 1 ∨ s = 2)) : Lif.waits s = false := decide_eq_false h
theorem live_yes {s : Int} (h : s = 3 ∨ s = 4) : Lif.live s = true := decide_eq_true h
theorem live_no {s : Int} (h : ¬ (s = 3 ∨ s = 4)) : Lif.live s = false := decide_eq_false h
theorem over_yes {s : Int} (h : 5 ≤ s ∧ s ≤ 8) : Lif.over s = true := decide_eq_true h
theorem over_no {s : Int} (h : ¬ (5 ≤ s ∧ s ≤ 8)) : Lif.over s = false := decide_eq_false h

set_option maxHeartbeats 400000 in
theorem waits_any (s : Int) (b : Bool) (hb : Lif.waits s = b) (w : World) : Calls Tryd.prog 22 #[.int .i64 s] w fun e w' => e = .returned (.bool b) ∧ w = w' := by
  subst hb
  go_enter Tryd.func22, Tryd.ntmps22
  go_wp2
  · go_ret
    exact ⟨ret_bool (waits_yes (Or.inl ‹_›)).symm, rfl⟩
  · go_ret
    exact ⟨ret_bool (by rw [Bool.eq_iff_iff]; simp [Lif.waits]), rfl⟩
set_option maxHeartbeats 400000 in
theorem live_any (s : Int) (b : Bool) (hb : Lif.live s = b) (w : World) : Calls Tryd.prog 17 #[.int .i64 s] w fun e w' => e = .returned (.bool b) ∧ w = w' := by
  subst hb
  go_enter Tryd.func17, Tryd.ntmps17
  go_wp2
  · go_ret
    exact ⟨ret_bool (live_yes (Or.inl ‹_›)).symm, rfl⟩
  · go_ret
    exact ⟨ret_bool (by rw [Bool.eq_iff_iff]; simp [Lif.live]), rfl⟩
set_option maxHeartbeats 400000 in
theorem over_any (s : Int) (b : Bool) (hb : Lif.over s = b) (w : World) : Calls Tryd.prog 15 #[.int .i64 s] w fun e w' => e = .returned (.bool b) ∧ w = w' := by
  subst hb
  go_enter Tryd.func15, Tryd.ntmps15
  go_wp2
  · go_ret
    exact ⟨ret_bool (by rw [Bool.eq_iff_iff]; simp [Lif.over]; omega), rfl⟩
  · go_ret
    exact ⟨ret_bool (over_no (by omega)).symm, rfl⟩

theorem right_of {s a l m : Int} {x y b : Bool} (hm : Lif.most s = m) (h : b = true ↔ (1 ≤ s ∧ s ≤ 8 ∧ 0 ≤ a ∧ 0 ≤ l ∧ a ≤ m ∧ l ≤ m - a ∧ ¬ (a = 0 ∧ 3 ≤ s ∧ s ≤ 7) ∧ (s = 4 ∨ x = false ∧ y = false))) : b = Lif.right ⟨s, a, l, x, y⟩ := by
  rw [Bool.eq_iff_iff, h]
  unfold Lif.right Lif.Rt
  simp only [hm, decide_eq_true_eq]

set_option maxRecDepth 100000 in
set_option maxHeartbeats 2000000 in
theorem right_any (s a l : Int) (x y : Bool) (ha : -9223372036854775808 ≤ a ∧ a ≤ 9223372036854775807) (w : World) : Calls Tryd.prog 13 #[.agg #[.int .i64 s, .int .i64 a, .int .i64 l, .bool x, .bool y]] w fun e w' => e = .returned (.bool (Lif.right ⟨s, a, l, x, y⟩)) ∧ Below w.heap.size w w' := by
  by_cases hw : s = 1 ∨ s = 2
  · have hm := Lib.hid (show Lif.most s = 5 from if_pos hw)
    go_enter Tryd.func13, Tryd.ntmps13
    go_wp2_with fail
    refine (waits_any _ true (waits_yes hw) _).mono ?_
    rintro e w' ⟨rfl, rfl⟩
    go_wp2_with (first | (go_at_call 17; refine (live_any _ false (live_no (by omega)) _).mono ?_; rintro e w' ⟨rfl, rfl⟩) | (go_at_call 15; refine (over_any _ false (over_no (by omega)) _).mono ?_; rintro e w' ⟨rfl, rfl⟩))
    all_goals
      go_ret
      cases x <;> cases y <;> first | contradiction | (refine ⟨ret_bool (right_of hm.out ?_), (Below.refl _ _).alloc (Nat.le_refl _) _⟩; first | (simp; done) | (simp; omega))
  · go_enter Tryd.func13, Tryd.ntmps13
    have hm := Lib.hid (show Lif.most s = 6 from if_neg hw)
    go_wp2_with fail
    refine (waits_any _ false (waits_no hw) _).mono ?_
    rintro e w' ⟨rfl, rfl⟩
    by_cases hl : s = 3 ∨ s = 4
    · go_wp2_with (go_at_call 17; refine (live_any _ true (live_yes hl) _).mono ?_; rintro e w' ⟨rfl, rfl⟩)
      all_goals
        go_ret
        cases x <;> cases y <;> first | contradiction | (refine ⟨ret_bool (right_of hm.out ?_), (Below.refl _ _).alloc (Nat.le_refl _) _⟩; first | (simp; done) | (simp; omega))
    · by_cases h8 : s = 8
      · have ho : 5 ≤ s ∧ s ≤ 8 := by omega
        have hne : (s != 8) = false := by simp [h8]
        have H8 := Lib.hid h8
        clear h8
        go_wp2_with (first | (go_at_call 17; refine (live_any _ false (live_no hl) _).mono ?_; rintro e w' ⟨rfl, rfl⟩) | (go_at_call 15; refine (over_any _ true (over_yes ho) _).mono ?_; rintro e w' ⟨rfl, rfl⟩))
        all_goals
          go_ret
          cases x <;> cases y <;> first | contradiction | (refine ⟨ret_bool (right_of hm.out ?_), (Below.refl _ _).alloc (Nat.le_refl _) _⟩; have h8 := H8.out; first | (simp; done) | (simp; omega))
      · have hne : (s != 8) = true := by simp [h8]
        by_cases ho : 5 ≤ s ∧ s ≤ 8
        · go_wp2_with (first | (go_at_call 17; refine (live_any _ false (live_no hl) _).mono ?_; rintro e w' ⟨rfl, rfl⟩) | (go_at_call 15; refine (over_any _ true (over_yes ho) _).mono ?_; rintro e w' ⟨rfl, rfl⟩))
          all_goals
            go_ret
            cases x <;> cases y <;> first | contradiction | (refine ⟨ret_bool (right_of hm.out ?_), (Below.refl _ _).alloc (Nat.le_refl _) _⟩; first | (simp; done) | (simp; omega))
        · go_wp2_with (first | (go_at_call 17; refine (live_any _ false (live_no hl) _).mono ?_; rintro e w' ⟨rfl, rfl⟩) | (go_at_call 15; refine (over_any _ false (over_no ho) _).mono ?_; rintro e w' ⟨rfl, rfl⟩))
          all_goals
            go_ret
            cases x <;> cases y <;> first | contradiction | (refine ⟨ret_bool (right_of hm.out ?_), (Below.refl _ _).alloc (Nat.le_refl _) _⟩; first | (simp; done) | (simp; omega))
end Go.Proofs.YtmpggfcceepccaaDoor
