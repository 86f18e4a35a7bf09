/- The walk of the layer's example. -/
import Derived.Test.YtnjgkgnjbmfpfaaTrw
import Derived.Test.YtnjgkgnjbmfpfaaVeq
namespace Go.Proofs.Ytnjgkgnjbmfpfaa
open Go.RowKit Go.Maps Go.Sort Ot

def v4 (a b c d : Int) : Nat → Int := Shr.four a b c d
/-- the example's question -/
def P0 : Par := ⟨v4 4 4 0 0, 1, fun _ => ⟨[97, 110, 97], v4 1 0 0 0⟩, 3, fun i => if i = 0 then ⟨1, [97, 110, 97], 0, v4 1 0 0 0⟩ else if i = 1 then ⟨2, [98, 111, 98], 0, v4 1 0 0 0⟩ else ⟨3, [98, 111, 98], 0, v4 2 0 0 0⟩⟩
theorem next0 : Ot.Next P0 [] 1 := ⟨by decide, by decide, fun k hk _ hne => by
  have hk : k < 3 := hk
  have h3 : k = 0 ∨ k = 2 := by omega
  rcases h3 with rfl | rfl
  · exact Or.inl ⟨by decide, Or.inl (of_decide_eq_true (by kernel_rfl))⟩
  · exact Or.inr ⟨rfl, Or.inl (of_decide_eq_true (by kernel_rfl))⟩⟩
theorem next1 : Ot.Next P0 [1] 0 := ⟨by decide, by decide, fun k hk ho hne => by
  have hk : k < 3 := hk
  have h3 : k = 2 := by simp at ho; omega
  subst h3
  exact Or.inl ⟨by decide, Or.inr ⟨by kernel_rfl, by decide⟩⟩⟩
theorem next2 : Ot.Next P0 [1, 0] 2 := ⟨by decide, by decide, fun k hk ho hne => by
  have hk : k < 3 := hk
  simp at ho
  omega⟩
theorem told0 : Ot.Told P0 [1, 0, 2] := ((Ot.Told.nil.snoc next0).snoc next1).snoc next2
theorem turns0 {l : List Nat} (h : Turns P0 l) : l = [1, 0, 2] := h.2.unique told0 h.1
theorem v4_in (a b c d : Int) (h : In64 a ∧ In64 b ∧ In64 c ∧ In64 d) : ∀ i, In64 (v4 a b c d i) := fun i => by
  unfold v4 Shr.four
  split <;> first | exact h.1 | exact h.2.1 | exact h.2.2.1 | exact h.2.2.2

instance (n : Int) : Decidable (In64 n) := inferInstanceAs (Decidable (_ ∧ _))
def usesRow : Array Value := #[Value.string ⟨#[97, 110, 97]⟩, .int .i64 1, .int .i64 0, .int .i64 0, .int .i64 0]
def wantsRow : Array Value := #[.int .i64 1, Value.string ⟨#[97, 110, 97]⟩, .int .i64 0, .int .i64 1, .int .i64 0, .int .i64 0, .int .i64 0, .int .i64 2, Value.string ⟨#[98, 111, 98]⟩, .int .i64 0, .int .i64 1, .int .i64 0, .int .i64 0, .int .i64 0, .int .i64 3, Value.string ⟨#[98, 111, 98]⟩, .int .i64 0, .int .i64 2, .int .i64 0, .int .i64 0, .int .i64 0]
set_option maxRecDepth 100000 in
theorem awake_turns (w : World) : Calls Try.prog 30 #[.agg #[.int .i64 4, .int .i64 4, .int .i64 0, .int .i64 0], .slice (some ⟨w.heap.size, 0, none⟩) 1 1, .slice (some ⟨w.heap.size + 1, 0, none⟩) 3 3] ((w.alloc (.cells usesRow 54)).alloc (.cells wantsRow 50)) fun e w' =>
    ∃ A c, e = .returned (.slice A 3 c) ∧ NumsAt w' A 3 (fun j => ((([1, 0, 2] : List Nat).getD j 0 : Nat) : Int)) ∧ Below w.heap.size w w' := by
  have hA : Bk ((w.alloc (.cells usesRow 54)).alloc (.cells wantsRow 50)) w.heap.size 54 usesRow := (Bk.new w _ _).alloc _
  have hB : Bk ((w.alloc (.cells usesRow 54)).alloc (.cells wantsRow 50)) (w.heap.size + 1) 50 wantsRow := Bk.newAt (by simp)
  have hh : UsesIn ((w.alloc (.cells usesRow 54)).alloc (.cells wantsRow 50)) (some ⟨w.heap.size, 0, none⟩) P0.nh P0.h := fun _ => ⟨_, 0, rfl, fun i hi => by
    have hi : i < 1 := hi
    obtain rfl : i = 0 := by omega
    exact ⟨hA.cell (i := 0) rfl, hA.cell (i := 1) rfl, hA.cell (i := 2) rfl, hA.cell (i := 3) rfl, hA.cell (i := 4) rfl, of_decide_eq_true (by kernel_rfl), v4_in _ _ _ _ (by decide)⟩⟩
  have hj : WantsIn ((w.alloc (.cells usesRow 54)).alloc (.cells wantsRow 50)) (some ⟨w.heap.size + 1, 0, none⟩) P0.n P0.js := fun _ => ⟨_, 0, rfl, fun i hi => by
    have hi : i < 3 := hi
    have h3 : i = 0 ∨ i = 1 ∨ i = 2 := by omega
    rcases h3 with rfl | rfl | rfl
    · exact ⟨hB.cell (i := 0) rfl, hB.cell (i := 1) rfl, hB.cell (i := 2) rfl, hB.cell (i := 3) rfl, hB.cell (i := 4) rfl, hB.cell (i := 5) rfl, hB.cell (i := 6) rfl, ⟨by decide, by decide⟩, of_decide_eq_true (by kernel_rfl), ⟨by decide, by decide⟩, v4_in _ _ _ _ (by decide)⟩
    · exact ⟨hB.cell (i := 7) rfl, hB.cell (i := 8) rfl, hB.cell (i := 9) rfl, hB.cell (i := 10) rfl, hB.cell (i := 11) rfl, hB.cell (i := 12) rfl, hB.cell (i := 13) rfl, ⟨by decide, by decide⟩, of_decide_eq_true (by kernel_rfl), ⟨by decide, by decide⟩, v4_in _ _ _ _ (by decide)⟩
    · exact ⟨hB.cell (i := 14) rfl, hB.cell (i := 15) rfl, hB.cell (i := 16) rfl, hB.cell (i := 17) rfl, hB.cell (i := 18) rfl, hB.cell (i := 19) rfl, hB.cell (i := 20) rfl, ⟨by decide, by decide⟩, of_decide_eq_true (by kernel_rfl), ⟨by decide, by decide⟩, v4_in _ _ _ _ (by decide)⟩⟩
  refine (turns_any P0 (some ⟨w.heap.size, 0, none⟩) 1 (some ⟨w.heap.size + 1, 0, none⟩) 3 (v4_in _ _ _ _ (by decide)) hh hj (by decide) (by decide)).mono ?_
  rintro e w' ⟨A, c, l, rfl, hF, hT, hb⟩
  have hl := turns0 hT
  subst hl
  exact ⟨A, c, rfl, hF.nums, (((Below.refl w.heap.size w).alloc (Nat.le_refl _) _).alloc (by simp) _).trans (hb.mono (by simp; omega))⟩

set_option maxRecDepth 100000 in
set_option maxHeartbeats 2000000 in
theorem awake_any (w : World) : Calls Try.prog 27 #[] w fun e w' => e = .returned (.bool true) ∧ Below w.heap.size w w' := by
  go_enter Try.func27, Try.ntmps27
  go_wp2_with fail
  refine (awake_turns w).mono ?_
  rintro e w1 ⟨A, c, rfl, hN, hB⟩
  have H1 := Lib.hid (show _ ∧ _ from ⟨hN, hB⟩)
  clear hN hB
  go_wp2_with fail
  refine (same_any A (some ⟨w1.heap.size, 0, none⟩) 3 c 3 (fun j => ((([1, 0, 2] : List Nat).getD j 0 : Nat) : Int)) (by omega) _ ?_ ?_).mono ?_
  · exact fun h3 => by
      obtain ⟨g, off, e, hc⟩ := H1.out.1 h3
      exact ⟨g, off, e, fun j hj => keep_alloc (hc j hj)⟩
  · exact fun _ => ⟨_, 0, rfl, fun j hj => by
      have hb := Bk.new w1 3 #[.int .i64 1, .int .i64 0, .int .i64 2]
      have h3 : j = 0 ∨ j = 1 ∨ j = 2 := by omega
      rcases h3 with rfl | rfl | rfl <;> exact hb.cell rfl⟩
  rintro e w2 ⟨rfl, hB2⟩
  have H2 := Lib.hid (show Below w.heap.size w w2 from (H1.out.2.alloc H1.out.2.size _).trans (hB2.mono (Nat.le_trans H1.out.2.size (by simp))))
  clear hB2
  go_wp2_with fail
  refine (plus_any (v4 1 (-5) 0 0) (v4 2 3 0 0) _).mono ?_
  rintro e w3 ⟨rfl, hB3⟩
  have H3 := Lib.hid (H2.out.trans (hB3.mono H2.out.size))
  have hv : vecV (plus (v4 1 (-5) 0 0) (v4 2 3 0 0)) = .agg #[.int .i64 3, .int .i64 3, .int .i64 0, .int .i64 0] := by kernel_rfl
  rw [hv]
  clear hB3
  have hq := vec_eq 3 3 0 0 w3
  go_wp2_with fail
  go_ret
  exact ⟨rfl, H3.out⟩
end Go.Proofs.Ytnjgkgnjbmfpfaa
