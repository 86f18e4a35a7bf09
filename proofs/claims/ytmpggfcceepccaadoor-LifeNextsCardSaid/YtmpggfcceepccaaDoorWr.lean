/- Walks of the document's answers for a life: Over, Live, Names, Right. -/
import Derived.Test.YtmpggfcceepccaaDoorWs
namespace Go.Proofs.YtmpggfcceepccaaDoor
open Go.RowKit

set_option maxHeartbeats 400000 in
theorem refLive_any (s : Int) (b : Bool) (hb : Lif.live s = b) (w : World) : Calls Tryd.prog 18 #[.int .i64 s] w fun e w' => e = .returned (.bool b) ∧ w = w' := by
  subst hb
  go_enter Tryd.func18, Tryd.ntmps18
  go_wp2
  · go_ret
    exact ⟨ret_bool (live_yes (Or.inl ‹_›)).symm, rfl⟩
  · go_ret
    exact ⟨ret_bool (by rw [Bool.eq_iff_iff]; simp [Lif.live]), rfl⟩
set_option maxHeartbeats 400000 in
theorem refOver_any (s : Int) (b : Bool) (hb : Lif.over s = b) (w : World) : Calls Tryd.prog 16 #[.int .i64 s] w fun e w' => e = .returned (.bool b) ∧ w = w' := by
  subst hb
  go_enter Tryd.func16, Tryd.ntmps16
  go_wp2
  all_goals
    go_ret
    exact ⟨ret_bool (by rw [Bool.eq_iff_iff]; simp [Lif.over]; omega), rfl⟩

/-- the row of names as one block -/
def nmCells : Array Value := #[.string (nm 0), .string (nm 1), .string (nm 2), .string (nm 3), .string (nm 4), .string (nm 5), .string (nm 6), .string (nm 7), .string (nm 8)]
set_option maxHeartbeats 400000 in
theorem refNames_any (w : World) : Calls Tryd.prog 12 #[] w fun e w' => e = .returned (.slice (some ⟨w.heap.size, 0, none⟩) 9 9) ∧ w' = w.alloc (.cells nmCells 9) := by
  go_enter Tryd.func12, Tryd.ntmps12
  go_wp2_with fail
  go_ret
  exact ⟨rfl, rfl⟩

set_option maxRecDepth 100000 in
set_option maxHeartbeats 2000000 in
theorem refRight_any (s a l : Int) (x y : Bool) (w : World) : Calls Tryd.prog 14 #[.agg #[.int .i64 s, .int .i64 a, .int .i64 l, .bool x, .bool y]] w fun e w' => e = .returned (.bool (Lif.right ⟨s, a, l, x, y⟩)) ∧ Below w.heap.size w w' := by
  by_cases hin : 0 ≤ a ∧ 0 ≤ l ∧ a ≤ 6 ∧ l ≤ 6
  · obtain ⟨i0, i1, i2, i3⟩ := hin
    by_cases hw : s = 1 ∨ s = 2
    · rcases hw with rfl | rfl
      · have hm := Lib.hid (show Lif.most 1 = 5 from rfl)
        go_enter Tryd.func14, Tryd.ntmps14
        go_wp2_with fail
        all_goals
          go_ret
          cases x <;> cases y <;> first | contradiction | (refine ⟨ret_bool (right_of hm.out ?_), below1 _ _⟩; first | (simp; done) | (simp; omega) | (simp; intros; omega))
      · have hm := Lib.hid (show Lif.most 2 = 5 from rfl)
        go_enter Tryd.func14, Tryd.ntmps14
        go_wp2_with fail
        all_goals
          go_ret
          cases x <;> cases y <;> first | contradiction | (refine ⟨ret_bool (right_of hm.out ?_), below1 _ _⟩; first | (simp; done) | (simp; omega) | (simp; intros; omega))
    · have hm := Lib.hid (show Lif.most s = 6 from if_neg hw)
      have h1 : (s == 1) = false := by simp; omega
      have h2 : (s == 2) = false := by simp; omega
      by_cases h8 : s = 8
      · subst h8
        clear h1 h2 hw
        go_enter Tryd.func14, Tryd.ntmps14
        go_wp2_with fail
        all_goals
          go_ret
          cases x <;> cases y <;> first | contradiction | (refine ⟨ret_bool (right_of hm.out ?_), below1 _ _⟩; first | (simp; done) | (simp; omega) | (simp; intros; omega))
      · have hne : (s != 8) = true := by simp [h8]
        by_cases h4 : s = 4
        · subst h4
          clear h1 h2 hw h8 hne
          go_enter Tryd.func14, Tryd.ntmps14
          go_wp2_with fail
          all_goals
            go_ret
            cases x <;> cases y <;> first | contradiction | (refine ⟨ret_bool (right_of hm.out ?_), below1 _ _⟩; first | (simp; done) | (simp; omega) | (simp; intros; omega))
        · have hn4 : (s == 4) = false := by simp [h4]
          go_enter Tryd.func14, Tryd.ntmps14
          go_wp2_with fail
          all_goals
            go_ret
            cases x <;> cases y <;> first | contradiction | (refine ⟨ret_bool (right_of hm.out ?_), below1 _ _⟩; first | (simp; done) | (simp; omega) | (simp; intros; omega))
  · have hf : false = Lif.right ⟨s, a, l, x, y⟩ := by
      refine (decide_eq_false (fun h => hin ?_)).symm
      have hm : Lif.most s ≤ 6 := by unfold Lif.most; split <;> omega
      unfold Lif.Rt at h
      simp only at h
      omega
    exact refRight_no s a l x y hf (by omega) w
end Go.Proofs.YtmpggfcceepccaaDoor
