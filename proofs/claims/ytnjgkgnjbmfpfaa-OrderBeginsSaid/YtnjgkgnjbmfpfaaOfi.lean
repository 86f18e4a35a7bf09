/- The walk of order.First. -/
import Derived.Test.YtnjgkgnjbmfpfaaOwh
namespace Go.Proofs.Ytnjgkgnjbmfpfaa
open Go.RowKit Go.Maps Go.Sort Ot

/-- what First tells -/
def FirstSaid (P : Par) (w : World) (e : Ending) (w' : World) : Prop :=
  Below w.heap.size w w' ∧ ∃ l, Turns P l ∧ ((l = [] ∧ e = .returned (.tuple #[.int .i64 0, .bool false])) ∨ ∃ (x : Nat) (t : List Nat), l = x :: t ∧ e = .returned (.tuple #[.int .i64 (x : Int), .bool true]))
set_option maxHeartbeats 2000000 in
theorem first_any {w : World} (u0 u1 u2 u3 : Int) (hu : In64 u0 ∧ In64 u1 ∧ In64 u2 ∧ In64 u3) (A1 : Option Addr) (nh k1 : Nat) (h : Nat → UD) (A2 : Option Addr) (n k2 : Nat) (js : Nat → JD) (hh : UsesIn w A1 nh h) (hj : WantsIn w A2 n js) (hnh : nh ≤ 1000) (hn : n ≤ 1000) :
    Calls Try.prog 34 #[.agg #[.int .i64 u0, .int .i64 u1, .int .i64 u2, .int .i64 u3], .slice A1 nh k1, .slice A2 n k2] w (FirstSaid ⟨v4 u0 u1 u2 u3, nh, h, n, js⟩ w) := by
  have hal := fun o => (Below.refl w.heap.size w).alloc (Nat.le_refl _) o
  have C := Lib.hid (turns_raw (w := w.alloc (.cells #[.int .i64 u0, .int .i64 u1, .int .i64 u2, .int .i64 u3] 28)) u0 u1 u2 u3 hu A1 nh k1 h A2 n k2 js (hh.keep (hal _)) (hj.keep (hal _)) hnh hn)
  have hn' : (n : Int) ≤ 1000 := by omega
  clear hh hj hal hu
  go_enter Try.func34, Try.ntmps34
  go_wp2_with fail
  refine C.out.mono ?_
  rintro e w1 ⟨A, c, l, rfl, hF, hT, hb⟩
  have H := Lib.hid (show _ ∧ _ ∧ _ from ⟨hF, hT, ((Below.refl w.heap.size w).alloc (Nat.le_refl _) _).trans (hb.mono (by simp))⟩)
  have hl := hF.len
  clear hF hT hb C
  cases l with
  | nil =>
    obtain rfl : n = 0 := hl
    go_wp2_with fail
    go_ret2
    exact ⟨H.out.2.2, [], H.out.2.1, Or.inl ⟨rfl, rfl⟩⟩
  | cons x t =>
    obtain ⟨g, o, rfl, cx⟩ := H.out.1.cellAt (j := 0) rfl
    rw [Nat.add_zero] at cx
    have hn0 : ((n : Int) == 0) = false := by simp at hl ⊢; omega
    have hn1 : (0 : Int) < (n : Int) := by simp at hl; omega
    clear hl
    go_wp2_with fail
    go_ret2
    exact ⟨H.out.2.2, x :: t, H.out.2.1, Or.inr ⟨x, t, rfl, rfl⟩⟩
end Go.Proofs.Ytnjgkgnjbmfpfaa
