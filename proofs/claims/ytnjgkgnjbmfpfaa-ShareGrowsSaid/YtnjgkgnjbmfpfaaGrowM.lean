/- Plain law: who gets more doesn't come to a lesser dominant share; nor where the whole gets less. No program in sight. -/
import Derived.Test.YtnjgkgnjbmfpfaaDomM
namespace Go.Proofs.Ytnjgkgnjbmfpfaa.Shr

theorem cmp_pl (a b c d : Int) : cmp (pl a) (pl b) c d = cmp a b c d := by unfold cmp; rw [pl_pl, pl_pl]
theorem cmp_pl2 (a b c d : Int) : cmp a b (pl c) (pl d) = cmp a b c d := by unfold cmp; rw [pl_pl, pl_pl]

theorem cmp_more {a a' : Int} (b : Int) (h : a ≤ a') : 0 ≤ cmp a' b a b := by
  have h1 : pl a ≤ pl a' := by unfold pl; omega
  have h2 := pl_nonneg a
  have h3 := pl_nonneg b
  unfold cmp
  generalize pl a = A at *
  generalize pl a' = A' at *
  generalize pl b = B at *
  rcases ht_cases A B h2 h3 with ⟨rfl, q⟩ | ⟨p, rfl, q⟩ | ⟨p, p2, q⟩
  · rw [cmpP_eq, if_neg (by omega), q]
    exact sg_nonneg.2 (ht_range A' B).1
  · have q' : ht A' 0 = 2 := by unfold ht; rw [if_neg (by omega), if_pos rfl]
    rw [cmpP_eq, if_neg (by omega), q, q']
    decide
  · rw [cmpP_cross (by omega) p2 (by omega) p2]
    exact sg_nonneg.2 (Int.mul_le_mul_of_nonneg_right h1 h3)
theorem cmp_less {b b' : Int} (a : Int) (h : b' ≤ b) : 0 ≤ cmp a b' a b := by
  have h1 : pl b' ≤ pl b := by unfold pl; omega
  have h2 := pl_nonneg a
  have h3 := pl_nonneg b
  have h4 := pl_nonneg b'
  unfold cmp
  generalize pl a = A at *
  generalize pl b = B at *
  generalize pl b' = B' at *
  rcases ht_cases A B' h2 h4 with ⟨rfl, q⟩ | ⟨p, rfl, q⟩ | ⟨p, p2, q⟩
  · have q' : ht 0 B = 0 := by unfold ht; rw [if_pos rfl]
    rw [cmpP_eq, if_neg (by omega), q, q']
    decide
  · rw [cmpP_eq, if_neg (by omega), q]
    have := ht_range A B
    exact sg_nonneg.2 this.2
  · rw [cmpP_cross (by omega) p2 (by omega) (by omega)]
    exact sg_nonneg.2 (Int.mul_le_mul_of_nonneg_left h1 h2)

/-- the best is above none, and one of them -/
theorem domN_best (h u : Nat → Int) (k : Nat) : (∀ i, i < k → 0 ≤ cmp (domN h u k).n (domN h u k).d (h i) (u i)) ∧ (0 < k → ∃ j, j < k ∧ (domN h u k).n = pl (h j) ∧ (domN h u k).d = pl (u j)) := by
  induction k with
  | zero => exact ⟨fun i hi => by omega, fun h => by omega⟩
  | succ k ih =>
    by_cases hc : k = 0 ∨ 0 < cmp (pl (h k)) (pl (u k)) (domN h u k).n (domN h u k).d
    · have e : domN h u (k + 1) = ⟨pl (h k), pl (u k), k⟩ := domStep_yes hc
      rw [e]
      refine ⟨fun i hi => ?_, fun _ => ⟨k, by omega, rfl, rfl⟩⟩
      simp only
      by_cases hik : i = k
      · subst hik
        rw [cmp_pl, cmp_self]
        omega
      · rcases hc with h0 | hc
        · omega
        · exact (cmp_trans (by omega) (ih.1 i (by omega))).1
    · have h1 : k ≠ 0 := by omega
      have h2 : ¬ 0 < cmp (pl (h k)) (pl (u k)) (domN h u k).n (domN h u k).d := by omega
      have e : domN h u (k + 1) = domN h u k := domStep_no h1 h2
      rw [e]
      refine ⟨fun i hi => ?_, fun _ => ?_⟩
      · by_cases hik : i = k
        · subst hik
          rw [cmp_swap, ← cmp_pl]
          omega
        · exact ih.1 i (by omega)
      · obtain ⟨j, hj, h3⟩ := ih.2 (by omega)
        exact ⟨j, by omega, h3⟩

theorem dom_mono (h u h' u' : Nat → Int) (hle : ∀ i, i < 4 → 0 ≤ cmp (h' i) (u' i) (h i) (u i)) : 0 ≤ cmp (dom h' u').n (dom h' u').d (dom h u).n (dom h u).d := by
  obtain ⟨j, hj, e1, e2⟩ := (domN_best h u 4).2 (by omega)
  have h1 := (domN_best h' u' 4).1 j hj
  have h2 := (cmp_trans h1 (hle j hj)).1
  unfold dom
  rw [e1, e2, cmp_pl2]
  exact h2

def mx (a b : Int) : Int := max a b
def mn (a b : Int) : Int := min a b
theorem mx_lt {a b : Int} (h : a < b) : mx a b = b := by unfold mx; omega
theorem mx_ge {a b : Int} (h : ¬ a < b) : mx a b = a := by unfold mx; omega
theorem mn_lt {a b : Int} (h : b < a) : mn a b = b := by unfold mn; omega
theorem mn_ge {a b : Int} (h : ¬ b < a) : mn a b = a := by unfold mn; omega
theorem mx_le (a b : Int) : a ≤ mx a b := by unfold mx; omega
theorem mn_le (a b : Int) : mn a b ≤ a := by unfold mn; omega

theorem grows (h0 h1 h2 h3 m0 m1 m2 m3 u0 u1 u2 u3 : Int) :
    0 ≤ cmp (dom (four (mx h0 m0) (mx h1 m1) (mx h2 m2) (mx h3 m3)) (four u0 u1 u2 u3)).n (dom (four (mx h0 m0) (mx h1 m1) (mx h2 m2) (mx h3 m3)) (four u0 u1 u2 u3)).d (dom (four h0 h1 h2 h3) (four u0 u1 u2 u3)).n (dom (four h0 h1 h2 h3) (four u0 u1 u2 u3)).d := by
  refine dom_mono _ _ _ _ fun i hi => ?_
  have h5 : i = 0 ∨ i = 1 ∨ i = 2 ∨ i = 3 := by omega
  rcases h5 with rfl | rfl | rfl | rfl <;> exact cmp_more _ (mx_le _ _)
theorem shrinks (h0 h1 h2 h3 m0 m1 m2 m3 u0 u1 u2 u3 : Int) :
    0 ≤ cmp (dom (four h0 h1 h2 h3) (four (mn u0 m0) (mn u1 m1) (mn u2 m2) (mn u3 m3))).n (dom (four h0 h1 h2 h3) (four (mn u0 m0) (mn u1 m1) (mn u2 m2) (mn u3 m3))).d (dom (four h0 h1 h2 h3) (four u0 u1 u2 u3)).n (dom (four h0 h1 h2 h3) (four u0 u1 u2 u3)).d := by
  refine dom_mono _ _ _ _ fun i hi => ?_
  have h5 : i = 0 ∨ i = 1 ∨ i = 2 ∨ i = 3 := by omega
  rcases h5 with rfl | rfl | rfl | rfl <;> exact cmp_less _ (mn_le _ _)

/-- what a loop has filled in so far -/
def fill (f : Nat → Int) (k i : Nat) : Int := if i < k then f i else 0
end Go.Proofs.Ytnjgkgnjbmfpfaa.Shr
