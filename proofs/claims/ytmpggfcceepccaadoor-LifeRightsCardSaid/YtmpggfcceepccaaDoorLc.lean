/- The walk of LifeRights. -/
import Derived.Test.YtmpggfcceepccaaDoorLa
import Derived.Test.YtmpggfcceepccaaDoorWr
namespace Go.Proofs.YtmpggfcceepccaaDoor
open Go.RowKit

theorem calls_val {P : Program} {f : Nat} {args : Array Value} {v : ByteArray} {c : ByteArray} {w : World} (h : Calls P f args w fun e w' => e = .returned (.string v) ∧ w = w') (hb : v = c) : Calls P f args w fun e w' => e = .returned (.string c) ∧ w = w' := by subst hb; exact h

theorem nmCells_at {i : Nat} (h : i < 9) : nmCells[i]? = some (.string (nm i)) := by
  match i, h with
  | 0, _ => rfl
  | 1, _ => rfl
  | 2, _ => rfl
  | 3, _ => rfl
  | 4, _ => rfl
  | 5, _ => rfl
  | 6, _ => rfl
  | 7, _ => rfl
  | 8, _ => rfl

set_option maxHeartbeats 400000 in
theorem name_in (i : Nat) (v : ByteArray) (h : 1 ≤ i ∧ i ≤ 8) (w : World) (c : w.cell? ⟨0, i, none⟩ = some (.string v)) : Calls Tryd.prog 19 #[.int .i64 i] w fun e w' => e = .returned (.string v) ∧ w = w' := by
  have c1 : (i : Int) < 9 := by omega
  go_enter Tryd.func19, Tryd.ntmps19
  go_wp2_with fail
  go_ret
  exact ⟨rfl, rfl⟩
set_option maxHeartbeats 400000 in
theorem name_out (s : Int) (h : ¬ (1 ≤ s ∧ s ≤ 8)) (w : World) : Calls Tryd.prog 19 #[.int .i64 s] w fun e w' => e = .returned (.string ⟨#[]⟩) ∧ w = w' := by
  go_enter Tryd.func19, Tryd.ntmps19
  go_wp2_with fail
  all_goals
    go_ret
    exact ⟨rfl, rfl⟩

set_option maxRecDepth 100000 in
set_option maxHeartbeats 2000000 in
theorem walk_LifeRights (s a l : Int) (x y : Bool) (_hs : -9223372036854775808 ≤ s ∧ s ≤ 9223372036854775807) (ha : -9223372036854775808 ≤ a ∧ a ≤ 9223372036854775807) (_hl : -9223372036854775808 ≤ l ∧ l ≤ 9223372036854775807) {w : World} (hN : Nms w) : Calls Tryd.prog 4 #[.agg #[.int .i64 s, .int .i64 a, .int .i64 l, .bool x, .bool y]] w fun e w' => e = .returned (.bool true) ∧ Below w.heap.size w w' := by
  obtain ⟨b1, q1⟩ : ∃ b, Hid (Lif.right ⟨s, a, l, x, y⟩ = b) := ⟨_, Lib.hid rfl⟩
  obtain ⟨b2, q2⟩ : ∃ b, Hid (Lif.over s = b) := ⟨_, Lib.hid rfl⟩
  obtain ⟨b3, q3⟩ : ∃ b, Hid (Lif.live s = b) := ⟨_, Lib.hid rfl⟩
  have R1 := Lib.hid (calls_bool (right_any s a l x y ha) q1.out)
  have R2 := Lib.hid (calls_bool (refRight_any s a l x y) q1.out)
  have hN0 := Lib.hid (hN.pass (below1 w (.cells #[.int .i64 s, .int .i64 a, .int .i64 l, .bool x, .bool y] 24)))
  clear hN
  go_enter Tryd.func4, Tryd.ntmps4
  go_wp2_with fail
  refine (awake_any _ hN0.out).mono ?_
  rintro e w1 ⟨rfl, hb1⟩
  have B1 := below_pass (below1 w (.cells #[.int .i64 s, .int .i64 a, .int .i64 l, .bool x, .bool y] 24)) (by simp) hb1
  have K1 := (Bk.new w 24 #[.int .i64 s, .int .i64 a, .int .i64 l, .bool x, .bool y]).pass hb1
  have N1 := Lib.hid (hN0.out.pass hb1)
  go_wp2_with fail
  refine (refNames_any _).mono ?_
  rintro e w2 ⟨rfl, rfl⟩
  have B2 := B1.alloc B1.size (.cells nmCells 9)
  have K2 := K1.alloc (.cells nmCells 9)
  have N2 := Lib.hid (N1.out.pass (below1 w1 (.cells nmCells 9)))
  have M2 := Bk.new w1 9 nmCells
  have c0 := K2.cell (i := 0) rfl
  have c1 := K2.cell (i := 1) rfl
  have c2 := K2.cell (i := 2) rfl
  have c3 := K2.cell (i := 3) rfl
  have c4 := K2.cell (i := 4) rfl
  clear hN0 N1 K1 B1 hb1
  by_cases hin : 1 ≤ s ∧ s ≤ 8
  · obtain ⟨i, rfl⟩ : ∃ i : Nat, s = (i : Int) := ⟨s.toNat, by omega⟩
    have m := M2.cell (i := i) (nmCells_at (by omega))
    obtain ⟨v, q4⟩ : ∃ v, Hid (nm (i : Int) = v) := ⟨_, Lib.hid rfl⟩
    rw [q4.out] at m
    have hi9 : (i : Int) < 9 := by omega
    have cN := N2.out i (by omega)
    rw [q4.out] at cN
    obtain ⟨W, HW⟩ : ∃ W, W = w1.alloc (.cells nmCells 9) := ⟨_, rfl⟩
    simp only [← HW] at *
    go_upto_region 8 with fail
    go_region_held3 (fun w' => w'.cell? ⟨w.heap.size, 0, none⟩ = some (.int .i64 (i : Int)) ∧ w'.cell? ⟨w.heap.size, 1, none⟩ = some (.int .i64 a) ∧ w'.cell? ⟨w.heap.size, 2, none⟩ = some (.int .i64 l) ∧ w'.cell? ⟨w.heap.size, 3, none⟩ = some (.bool x) ∧ w'.cell? ⟨w.heap.size, 4, none⟩ = some (.bool y) ∧ w'.cell? ⟨0, i, none⟩ = some (.string v)) (first | (refine ⟨?_, ?_, ?_, ?_, ?_, ?_⟩ <;> assumption) | assumption | exact keepB6 (by assumption) (by assumption)) (first | (go_at_call 13; refine (R1.out _).mono ?_; rintro e w' ⟨rfl, hbx⟩) | (go_at_call 14; refine (R2.out _).mono ?_; rintro e w' ⟨rfl, hby⟩) | (go_at_call 15; refine (over_any _ _ q2.out _).mono ?_; rintro e w' ⟨rfl, rfl⟩) | (go_at_call 16; refine (refOver_any _ _ q2.out _).mono ?_; rintro e w' ⟨rfl, rfl⟩) | (go_at_call 17; refine (live_any _ _ q3.out _).mono ?_; rintro e w' ⟨rfl, rfl⟩) | (go_at_call 18; refine (refLive_any _ _ q3.out _).mono ?_; rintro e w' ⟨rfl, rfl⟩) | (go_at_call 19; refine (name_in i v (by omega) _ (by first | assumption | exact (by assumption : _ ∧ _ ∧ _ ∧ _ ∧ _ ∧ _).2.2.2.2.2 | exact And.right (And.right (And.right (And.right (And.right (by assumption))))))).mono ?_; rintro e w' ⟨rfl, rfl⟩))
    all_goals
      go_wp2_with fail
      go_ret
      exact ⟨rfl, below_pass (below_pass (below_drewN B2 1) (show w.heap.size ≤ W.drew.heap.size from B2.size) hbx) (Nat.le_trans (show w.heap.size ≤ W.drew.heap.size from B2.size) hbx.size) hby⟩
  · obtain ⟨W, HW⟩ : ∃ W, W = w1.alloc (.cells nmCells 9) := ⟨_, rfl⟩
    simp only [← HW] at *
    have cN := N2.out 0 (by omega)
    go_upto_region 8 with fail
    all_goals
      go_region_held3 (fun w' => w'.cell? ⟨w.heap.size, 0, none⟩ = some (.int .i64 s) ∧ w'.cell? ⟨w.heap.size, 1, none⟩ = some (.int .i64 a) ∧ w'.cell? ⟨w.heap.size, 2, none⟩ = some (.int .i64 l) ∧ w'.cell? ⟨w.heap.size, 3, none⟩ = some (.bool x) ∧ w'.cell? ⟨w.heap.size, 4, none⟩ = some (.bool y) ∧ w'.cell? ⟨0, 0, none⟩ = some (.string (nm 0))) (first | (refine ⟨?_, ?_, ?_, ?_, ?_, ?_⟩ <;> assumption) | assumption | exact keepB6 (by assumption) (by assumption)) (first | (go_at_call 13; refine (R1.out _).mono ?_; rintro e w' ⟨rfl, hbx⟩) | (go_at_call 14; refine (R2.out _).mono ?_; rintro e w' ⟨rfl, hby⟩) | (go_at_call 15; refine (over_any _ _ q2.out _).mono ?_; rintro e w' ⟨rfl, rfl⟩) | (go_at_call 16; refine (refOver_any _ _ q2.out _).mono ?_; rintro e w' ⟨rfl, rfl⟩) | (go_at_call 17; refine (live_any _ _ q3.out _).mono ?_; rintro e w' ⟨rfl, rfl⟩) | (go_at_call 18; refine (refLive_any _ _ q3.out _).mono ?_; rintro e w' ⟨rfl, rfl⟩) | (go_at_call 19; refine (name_out s hin _).mono ?_; rintro e w' ⟨rfl, rfl⟩))
    all_goals
      go_wp2_with fail
      go_ret
      exact ⟨rfl, below_pass (below_pass (below_drewN B2 1) (show w.heap.size ≤ W.drew.heap.size from B2.size) hbx) (Nat.le_trans (show w.heap.size ≤ W.drew.heap.size from B2.size) hbx.size) hby⟩
end Go.Proofs.YtmpggfcceepccaaDoor
