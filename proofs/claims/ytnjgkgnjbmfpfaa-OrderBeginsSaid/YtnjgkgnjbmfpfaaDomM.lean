/- Plain arithmetic of the greatest share: the fold over the resources; no program in sight. -/
import Derived.Test.YtnjgkgnjbmfpfaaShr
namespace Go.Proofs.Ytnjgkgnjbmfpfaa.Shr

structure Best where
  n : Int
  d : Int
  at_ : Int

/-- one resource more -/
def domStep (i : Nat) (b : Best) (x y : Int) : Best := if i = 0 ∨ 0 < cmp (pl x) (pl y) b.n b.d then ⟨pl x, pl y, i⟩ else b
/-- the best of the first k resources -/
def domN (h u : Nat → Int) : Nat → Best
  | 0 => ⟨0, 0, 0⟩
  | k + 1 => domStep k (domN h u k) (h k) (u k)
def dom (h u : Nat → Int) : Best := domN h u 4
def four (a b c d : Int) : Nat → Int
  | 0 => a
  | 1 => b
  | 2 => c
  | _ => d

theorem domStep_yes {i : Nat} {b : Best} {x y : Int} (h : i = 0 ∨ 0 < cmp (pl x) (pl y) b.n b.d) : domStep i b x y = ⟨pl x, pl y, i⟩ := if_pos h
theorem domStep_no {i : Nat} {b : Best} {x y : Int} (h1 : i ≠ 0) (h2 : ¬ 0 < cmp (pl x) (pl y) b.n b.d) : domStep i b x y = b := if_neg (by omega)

/-- the best's numbers are within the kind -/
theorem domN_range (h u : Nat → Int) (hh : ∀ k, h k ≤ 9223372036854775807) (hu : ∀ k, u k ≤ 9223372036854775807) (k : Nat) :
    0 ≤ (domN h u k).n ∧ (domN h u k).n ≤ 9223372036854775807 ∧ 0 ≤ (domN h u k).d ∧ (domN h u k).d ≤ 9223372036854775807 ∧ 0 ≤ (domN h u k).at_ ∧ (domN h u k).at_ ≤ k := by
  induction k with
  | zero => simp [domN]
  | succ k ih =>
    unfold domN domStep
    have h1 := hh k
    have h2 := hu k
    split
    · unfold pl; simp; omega
    · omega

theorem pl_le {a : Int} (h : a ≤ 9223372036854775807) : 0 ≤ pl a ∧ pl a ≤ 9223372036854775807 := by unfold pl; omega

end Go.Proofs.Ytnjgkgnjbmfpfaa.Shr
