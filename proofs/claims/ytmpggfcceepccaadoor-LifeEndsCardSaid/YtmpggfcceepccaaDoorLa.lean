/- corveeref10.New and the walk of LifeNews. -/
import Derived.Test.YtmpggfcceepccaaDoorRow
namespace Go.Proofs.YtmpggfcceepccaaDoor
open Go.RowKit

set_option maxHeartbeats 400000 in
theorem refNew_any (r : Int) (h : Bool) (q : Lif.Life × Int) (hq : Lif.fresh r h = q) (w : World) : Calls Tryd.prog 21 #[.int .i64 r, .bool h] w fun e w' =>
    e = .returned (.tuple #[.agg #[.int .i64 q.1.st, .int .i64 q.1.at_, .int .i64 q.1.lf, .bool q.1.wall, .bool q.1.stop], .int .i64 q.2]) ∧ Below w.heap.size w w' := by
  by_cases c : r < 0 ∨ 5 < r
  · obtain rfl : q = (⟨0, 0, 0, false, false⟩, 1) := hq.symm.trans (if_pos c)
    go_enter Tryd.func21, Tryd.ntmps21
    go_wp2
    all_goals exact bodyPost_ret (v := .tuple #[.agg #[.int .i64 (0), .int .i64 (0), .int .i64 (0), .bool false, .bool false], .int .i64 1]) (by simp [results, Tryd.results21, go_sem]) rfl ⟨rfl, below1 _ _⟩
  · have hq2 := hq.symm.trans (if_neg c)
    have c0 : 0 ≤ r := by omega
    have c5 : r ≤ 5 := by omega
    clear c
    cases h
    · obtain rfl : q = (⟨1, 0, r, false, false⟩, 0) := hq2
      go_enter Tryd.func21, Tryd.ntmps21
      go_wp2_with fail
      all_goals exact bodyPost_ret (v := .tuple #[.agg #[.int .i64 (1), .int .i64 (0), .int .i64 (r), .bool false, .bool false], .int .i64 0]) (by simp [results, Tryd.results21, go_sem]) rfl ⟨rfl, below2' _ _ _⟩
    · obtain rfl : q = (⟨2, 0, r, false, false⟩, 0) := hq2
      go_enter Tryd.func21, Tryd.ntmps21
      go_wp2_with fail
      all_goals exact bodyPost_ret (v := .tuple #[.agg #[.int .i64 (2), .int .i64 (0), .int .i64 (r), .bool false, .bool false], .int .i64 0]) (by simp [results, Tryd.results21, go_sem]) rfl ⟨rfl, below2' _ _ _⟩

theorem fresh_right {r : Int} (c0 : 0 ≤ r) (c5 : r ≤ 5) (s : Int) (hs : s = 1 ∨ s = 2) : Lif.right ⟨s, 0, r, false, false⟩ = true := by
  refine Lif.right_iff.2 ?_
  have hm : Lif.most s = 5 := if_pos hs
  unfold Lif.Rt
  simp only [hm]
  refine ⟨by omega, by omega, by omega, by omega, by omega, by omega, by omega, by simp⟩

set_option maxHeartbeats 1000000 in
theorem walk_LifeNews (r : Int) (h : Bool) (_hr : -9223372036854775808 ≤ r ∧ r ≤ 9223372036854775807) {w : World} (hN : Nms w) : Calls Tryd.prog 5 #[.int .i64 r, .bool h] w fun e w' => e = .returned (.bool true) ∧ Below w.heap.size w w' := by
  by_cases c : r < 0 ∨ 5 < r
  · have hq := Lib.hid (show Lif.fresh r h = (⟨0, 0, 0, false, false⟩, 1) from if_pos c)
    clear c
    go_enter Tryd.func5, Tryd.ntmps5
    go_wp2_with fail
    refine (awake_any _ hN).mono ?_
    rintro e w1 ⟨rfl, hb1⟩
    go_wp2_with fail
    refine (new_any r h _ hq.out _).mono ?_
    rintro e w2 ⟨rfl, hb2⟩
    have B2 := below_pass hb1 hb1.size hb2
    go_wp2_with fail
    refine (refNew_any r h _ hq.out _).mono ?_
    rintro e w3 ⟨rfl, hb3⟩
    have B3 := below_pass (B2.alloc B2.size _) (Nat.le_trans B2.size (by simp)) hb3
    have k := (Bk.new w2 24 #[.int .i64 0, .int .i64 0, .int .i64 0, .bool false, .bool false]).pass hb3
    have c0 := (k.alloc (.cells #[.int .i64 0, .int .i64 0, .int .i64 0, .bool false, .bool false] 24)).cell (i := 0) rfl
    have c1 := (k.alloc (.cells #[.int .i64 0, .int .i64 0, .int .i64 0, .bool false, .bool false] 24)).cell (i := 1) rfl
    have c2 := (k.alloc (.cells #[.int .i64 0, .int .i64 0, .int .i64 0, .bool false, .bool false] 24)).cell (i := 2) rfl
    have c3 := (k.alloc (.cells #[.int .i64 0, .int .i64 0, .int .i64 0, .bool false, .bool false] 24)).cell (i := 3) rfl
    have c4 := (k.alloc (.cells #[.int .i64 0, .int .i64 0, .int .i64 0, .bool false, .bool false] 24)).cell (i := 4) rfl
    go_wp2_with fail
    go_ret
    exact ⟨rfl, B3.alloc B3.size _⟩
  · obtain ⟨s, hs, hq⟩ : ∃ s, (s = 1 ∨ s = 2) ∧ Hid (Lif.fresh r h = (⟨s, 0, r, false, false⟩, 0)) := by
      cases h
      · exact ⟨1, Or.inl rfl, if_neg c⟩
      · exact ⟨2, Or.inr rfl, if_neg c⟩
    have hR := fresh_right (r := r) (by omega) (by omega) s hs
    clear c hs
    go_enter Tryd.func5, Tryd.ntmps5
    go_wp2_with fail
    refine (awake_any _ hN).mono ?_
    rintro e w1 ⟨rfl, hb1⟩
    go_wp2_with fail
    refine (new_any r h _ hq.out _).mono ?_
    rintro e w2 ⟨rfl, hb2⟩
    have B2 := below_pass hb1 hb1.size hb2
    go_wp2_with fail
    refine (refNew_any r h _ hq.out _).mono ?_
    rintro e w3 ⟨rfl, hb3⟩
    have B3 := below_pass (B2.alloc B2.size _) (Nat.le_trans B2.size (by simp)) hb3
    have k := (Bk.new w2 24 #[.int .i64 s, .int .i64 0, .int .i64 r, .bool false, .bool false]).pass hb3
    have c0 := (k.alloc (.cells #[.int .i64 s, .int .i64 0, .int .i64 r, .bool false, .bool false] 24)).cell (i := 0) rfl
    have c1 := (k.alloc (.cells #[.int .i64 s, .int .i64 0, .int .i64 r, .bool false, .bool false] 24)).cell (i := 1) rfl
    have c2 := (k.alloc (.cells #[.int .i64 s, .int .i64 0, .int .i64 r, .bool false, .bool false] 24)).cell (i := 2) rfl
    have c3 := (k.alloc (.cells #[.int .i64 s, .int .i64 0, .int .i64 r, .bool false, .bool false] 24)).cell (i := 3) rfl
    have c4 := (k.alloc (.cells #[.int .i64 s, .int .i64 0, .int .i64 r, .bool false, .bool false] 24)).cell (i := 4) rfl
    go_wp2_with fail
    refine (calls_bool (right_any s 0 r false false ⟨by omega, by omega⟩) hR _).mono ?_
    rintro e w4 ⟨rfl, hb4⟩
    have B4 := below_pass (B3.alloc B3.size _) (Nat.le_trans B3.size (by simp)) hb4
    go_wp2_with fail
    go_ret
    exact ⟨rfl, B4⟩
end Go.Proofs.YtmpggfcceepccaaDoor
