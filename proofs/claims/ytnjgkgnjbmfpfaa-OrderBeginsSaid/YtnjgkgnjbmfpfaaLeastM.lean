/- Plain law of the least of a row of shares: the place that the loop keeps; no program in sight. -/
import Derived.Test.YtnjgkgnjbmfpfaaDomM
namespace Go.Proofs.Ytnjgkgnjbmfpfaa.Shr

/-- the place of the least of the first k; -1: none -/
def leastN (a b : Nat → Int) : Nat → Int
  | 0 => -1
  | k + 1 => if leastN a b k < 0 ∨ cmp (a k) (b k) (a (leastN a b k).toNat) (b (leastN a b k).toNat) < 0 then (k : Int) else leastN a b k

theorem leastN_range (a b : Nat → Int) (k : Nat) : (k = 0 → leastN a b k = -1) ∧ (0 < k → 0 ≤ leastN a b k ∧ leastN a b k < k) := by
  induction k with
  | zero => simp [leastN]
  | succ k ih =>
    refine ⟨by omega, fun _ => ?_⟩
    unfold leastN
    split
    · omega
    · rename_i h
      rcases Nat.eq_zero_or_pos k with rfl | hk
      · have := ih.1 rfl; omega
      · have := ih.2 hk; omega
theorem leastN_yes {a b : Nat → Int} {k : Nat} (h : leastN a b k < 0 ∨ cmp (a k) (b k) (a (leastN a b k).toNat) (b (leastN a b k).toNat) < 0) : leastN a b (k + 1) = k := if_pos h
theorem leastN_no {a b : Nat → Int} {k : Nat} (h1 : ¬ leastN a b k < 0) (h2 : ¬ cmp (a k) (b k) (a (leastN a b k).toNat) (b (leastN a b k).toNat) < 0) : leastN a b (k + 1) = leastN a b k := if_neg (by omega)

theorem cmp_zero_sym {a b c d : Int} (h : cmp a b c d = 0) : cmp c d a b = 0 := by rw [cmp_swap]; omega

/-- it is below none of the first k, and the first of its like -/
theorem leastN_least (a b : Nat → Int) (k : Nat) (hk : 0 < k) : ∀ i, i < k →
    0 ≤ cmp (a i) (b i) (a (leastN a b k).toNat) (b (leastN a b k).toNat) ∧ ((i : Int) < leastN a b k → cmp (a i) (b i) (a (leastN a b k).toNat) (b (leastN a b k).toNat) ≠ 0) := by
  induction k with
  | zero => omega
  | succ k ih =>
    intro i hi
    rcases Nat.eq_zero_or_pos k with rfl | hk'
    · have hl : leastN a b 1 = 0 := leastN_yes (Or.inl (by simp [leastN]))
      rw [hl]
      obtain rfl : i = 0 := by omega
      simp [cmp_self]
    · have hr := (leastN_range a b k).2 hk'
      by_cases hc : cmp (a k) (b k) (a (leastN a b k).toNat) (b (leastN a b k).toNat) < 0
      · rw [leastN_yes (Or.inr hc)]
        simp only [Int.toNat_natCast]
        by_cases hik : i = k
        · subst hik
          rw [cmp_self]
          omega
        · have h1 := ih hk' i (by omega)
          have h2 : 0 ≤ cmp (a (leastN a b k).toNat) (b (leastN a b k).toNat) (a k) (b k) := by rw [cmp_swap]; omega
          have h3 := cmp_trans h1.1 h2
          refine ⟨h3.1, fun _ h4 => ?_⟩
          have h5 := (h3.2.1 h4).2
          rw [cmp_swap] at h5
          omega
      · rw [leastN_no (by omega) hc]
        by_cases hik : i = k
        · subst hik
          exact ⟨by omega, fun h => by omega⟩
        · exact ih hk' i (by omega)

end Go.Proofs.Ytnjgkgnjbmfpfaa.Shr
