/- The walk of awake: the document's examples hold. -/
import Derived.Test.YtnjgkgnjbmfpfaaWe
import Derived.Test.YtnjgkgnjbmfpfaaWf
namespace Go.Proofs.Ytnjgkgnjbmfpfaa
open Go.RowKit Go.Shelf

theorem dom_example : Shr.dom (Shr.four 2 1 0 0) (Shr.four 9 3 0 5) = ⟨1, 3, 1⟩ := by rfl
theorem cmp_example : Shr.cmp 1 3 333 1000 = 1 := by decide +kernel
def exA : Nat → Int := fun _ => 1
def exB : Nat → Int
  | 0 => 2
  | _ => 3
theorem least_example : Shr.leastN exA exB 2 = 1 := by decide +kernel

theorem ex_dom (w : World) : Calls Try.prog 19 #[.agg #[.int .i64 2, .int .i64 1, .int .i64 0, .int .i64 0], .agg #[.int .i64 9, .int .i64 3, .int .i64 0, .int .i64 5]] w fun e w' =>
    e = .returned (.tuple #[.agg #[.int .i64 1, .int .i64 3], .int .i64 1]) ∧ Below w.heap.size w w' := by
  have h := dominant_any 2 1 0 0 9 3 0 5 (by omega) (by omega) (by omega) (by omega) (by omega) (by omega) (by omega) (by omega) w
  rw [dom_example] at h
  exact h
theorem ex_cmp (w : World) : Calls Try.prog 17 #[.agg #[.int .i64 1, .int .i64 3], .agg #[.int .i64 333, .int .i64 1000]] w fun e w' => e = .returned (.int .i64 1) ∧ Below w.heap.size w w' := by
  have h := compare_any 1 3 333 1000 (by omega) (by omega) (by omega) (by omega) w
  rw [cmp_example] at h
  exact h
theorem ex_least (g c : Nat) (w : World) (h0 : w.cell? ⟨g, 0, none⟩ = some (.int .i64 1)) (h1 : w.cell? ⟨g, 1, none⟩ = some (.int .i64 2)) (h2 : w.cell? ⟨g, 2, none⟩ = some (.int .i64 1)) (h3 : w.cell? ⟨g, 3, none⟩ = some (.int .i64 3)) :
    Calls Try.prog 21 #[.slice (some ⟨g, 0, none⟩) 2 c] w fun e w' => e = .returned (.int .i64 1) ∧ Below w.heap.size w w' := by
  have h := least_any g 0 2 c exA exB w (by omega) (by
    intro i hi
    have h5 : i = 0 ∨ i = 1 := by omega
    rcases h5 with rfl | rfl
    · exact ⟨h0, h1⟩
    · exact ⟨h2, h3⟩) (by
    intro i
    refine ⟨by simp [exA], ?_⟩
    unfold exB
    split <;> omega)
  rw [least_example] at h
  exact h

set_option maxHeartbeats 1000000 in
theorem awake_any (w : World) : Calls Try.prog 16 #[] w fun e w' => e = .returned (.bool true) ∧ Below w.heap.size w w' := by
  go_enter Try.func16, Try.ntmps16
  go_wp2_with fail
  refine (ex_dom _).mono ?_
  rintro e w1 ⟨rfl, hb1⟩
  go_wp2_with fail
  refine (ex_cmp _).mono ?_
  rintro e w2 ⟨rfl, hb2⟩
  have x0 : w2.cell? ⟨w1.heap.size, 0, none⟩ = some (.int .i64 1) := keep_below ((Bk.new w1 _ _).cell rfl) hb2
  have x1 : w2.cell? ⟨w1.heap.size, 1, none⟩ = some (.int .i64 3) := keep_below ((Bk.new w1 _ _).cell rfl) hb2
  go_wp2_with fail
  refine (ex_least w2.heap.size 2 _ ((Bk.new w2 _ _).cell rfl) ((Bk.new w2 _ _).cell rfl) ((Bk.new w2 _ _).cell rfl) ((Bk.new w2 _ _).cell rfl)).mono ?_
  rintro e w3 ⟨rfl, hb3⟩
  go_wp2_with fail
  go_ret
  have b1 := below_pass (hb1.alloc hb1.size (.cells #[.int .i64 1, .int .i64 3] 23)) (by have := hb1.size; simp; omega) hb2
  exact ⟨rfl, below_pass (b1.alloc b1.size (.cells #[.int .i64 1, .int .i64 2, .int .i64 1, .int .i64 3] 23)) (by have := b1.size; simp; omega) hb3⟩

end Go.Proofs.Ytnjgkgnjbmfpfaa
