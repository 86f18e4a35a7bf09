/- Plain arithmetic of shares: comparing parts of a whole by cross products; no program in sight. -/
namespace Go.Proofs.Ytnjgkgnjbmfpfaa.Shr

def pl (n : Int) : Int := max n 0
def ht (n d : Int) : Int := if n = 0 then 0 else if d = 0 then 2 else 1
def sg (x y : Int) : Int := if x < y then -1 else if y < x then 1 else 0
/-- the comparison on numbers not below 0 -/
def cmpP (a b c d : Int) : Int :=
  if a = c ∧ b = d then 0 else if ht a b = 1 ∧ ht c d = 1 then sg (a * d) (c * b) else sg (ht a b) (ht c d)
def cmp (a b c d : Int) : Int := cmpP (pl a) (pl b) (pl c) (pl d)

theorem pl_nonneg (n : Int) : 0 ≤ pl n := by unfold pl; omega
theorem pl_pl (n : Int) : pl (pl n) = pl n := by unfold pl; omega
theorem pl_of_nonneg {n : Int} (h : 0 ≤ n) : pl n = n := by unfold pl; omega

theorem sg_lt {x y : Int} (h : x < y) : sg x y = -1 := by unfold sg; rw [if_pos h]
theorem sg_gt {x y : Int} (h : y < x) : sg x y = 1 := by unfold sg; rw [if_neg (by omega), if_pos h]
theorem sg_eq {x y : Int} (h : x = y) : sg x y = 0 := by unfold sg; rw [if_neg (by omega), if_neg (by omega)]
theorem sg_swap (x y : Int) : sg y x = -(sg x y) := by unfold sg; split <;> split <;> omega
theorem sg_self (x : Int) : sg x x = 0 := sg_eq rfl
theorem sg_range (x y : Int) : -1 ≤ sg x y ∧ sg x y ≤ 1 := by unfold sg; split <;> (try split) <;> omega
theorem sg_nonneg {x y : Int} : 0 ≤ sg x y ↔ y ≤ x := by unfold sg; split <;> (try split) <;> omega
theorem sg_zero {x y : Int} : sg x y = 0 ↔ x = y := by unfold sg; split <;> (try split) <;> omega
theorem sg_pos {x y : Int} : 0 < sg x y ↔ y < x := by unfold sg; split <;> (try split) <;> omega
theorem sg_neg {x y : Int} : sg x y < 0 ↔ x < y := by unfold sg; split <;> (try split) <;> omega

/-- a key over which everything is linear: a fraction with a positive denominator, or 'without bound' -/
theorem ht_cases (n d : Int) (hn : 0 ≤ n) (hd : 0 ≤ d) : (n = 0 ∧ ht n d = 0) ∨ (0 < n ∧ d = 0 ∧ ht n d = 2) ∨ (0 < n ∧ 0 < d ∧ ht n d = 1) := by
  unfold ht
  by_cases h : n = 0
  · left; simp [h]
  · by_cases h2 : d = 0
    · right; left; simp [h, h2]; omega
    · right; right; simp [h, h2]; omega

/-- another writing without the test for equality -/
theorem cmpP_eq (a b c d : Int) : cmpP a b c d = if ht a b = 1 ∧ ht c d = 1 then sg (a * d) (c * b) else sg (ht a b) (ht c d) := by
  unfold cmpP
  by_cases h : a = c ∧ b = d
  · obtain ⟨rfl, rfl⟩ := h
    rw [if_pos ⟨rfl, rfl⟩]
    split
    · rw [sg_self]
    · rw [sg_self]
  · rw [if_neg h]

theorem cmpP_swap (a b c d : Int) : cmpP c d a b = -(cmpP a b c d) := by
  rw [cmpP_eq, cmpP_eq]
  by_cases h : ht a b = 1 ∧ ht c d = 1
  · rw [if_pos h, if_pos ⟨h.2, h.1⟩, sg_swap]
  · rw [if_neg h, if_neg (fun h' => h ⟨h'.2, h'.1⟩), sg_swap]
theorem cmpP_self (a b : Int) : cmpP a b a b = 0 := by unfold cmpP; rw [if_pos ⟨rfl, rfl⟩]
theorem cmpP_range (a b c d : Int) : -1 ≤ cmpP a b c d ∧ cmpP a b c d ≤ 1 := by
  rw [cmpP_eq]; split <;> exact sg_range _ _

theorem cmp_swap (a b c d : Int) : cmp c d a b = -(cmp a b c d) := cmpP_swap _ _ _ _
theorem cmp_self (a b : Int) : cmp a b a b = 0 := cmpP_self _ _
theorem cmp_range (a b c d : Int) : -1 ≤ cmp a b c d ∧ cmp a b c d ≤ 1 := cmpP_range _ _ _ _

/-- cross products go through -/
theorem cross_le {a b c d e f : Int} (hb : 0 < b) (hd : 0 < d) (hf : 0 < f) (h1 : c * b ≤ a * d) (h2 : e * d ≤ c * f) : e * b ≤ a * f := by
  have h3 : (c * b) * f ≤ (a * d) * f := Int.mul_le_mul_of_nonneg_right h1 (by omega)
  have h4 : (e * d) * b ≤ (c * f) * b := Int.mul_le_mul_of_nonneg_right h2 (by omega)
  have e1 : (c * b) * f = (c * f) * b := by rw [Int.mul_assoc, Int.mul_assoc, Int.mul_comm b f]
  have e2 : (e * d) * b = (e * b) * d := by rw [Int.mul_assoc, Int.mul_assoc, Int.mul_comm d b]
  have e3 : (a * d) * f = (a * f) * d := by rw [Int.mul_assoc, Int.mul_assoc, Int.mul_comm d f]
  have h5 : (e * b) * d ≤ (a * f) * d := by rw [← e2, ← e3]; rw [e1] at h3; exact Int.le_trans h4 h3
  exact Int.le_of_mul_le_mul_right h5 hd
theorem cross_lt {a b c d e f : Int} (hb : 0 < b) (hd : 0 < d) (hf : 0 < f) (h1 : c * b < a * d) (h2 : e * d ≤ c * f) : e * b < a * f := by
  have h3 : (c * b) * f < (a * d) * f := Int.mul_lt_mul_of_pos_right h1 (by omega)
  have h4 : (e * d) * b ≤ (c * f) * b := Int.mul_le_mul_of_nonneg_right h2 (by omega)
  have e1 : (c * b) * f = (c * f) * b := by rw [Int.mul_assoc, Int.mul_assoc, Int.mul_comm b f]
  have e2 : (e * d) * b = (e * b) * d := by rw [Int.mul_assoc, Int.mul_assoc, Int.mul_comm d b]
  have e3 : (a * d) * f = (a * f) * d := by rw [Int.mul_assoc, Int.mul_assoc, Int.mul_comm d f]
  have h5 : (e * b) * d < (a * f) * d := by rw [← e2, ← e3]; rw [e1] at h3; exact Int.lt_of_le_of_lt h4 h3
  exact Int.lt_of_mul_lt_mul_right h5 (by omega)
theorem cross_lt' {a b c d e f : Int} (hb : 0 < b) (hd : 0 < d) (hf : 0 < f) (h1 : c * b ≤ a * d) (h2 : e * d < c * f) : e * b < a * f := by
  have h3 : (c * b) * f ≤ (a * d) * f := Int.mul_le_mul_of_nonneg_right h1 (by omega)
  have h4 : (e * d) * b < (c * f) * b := Int.mul_lt_mul_of_pos_right h2 (by omega)
  have e1 : (c * b) * f = (c * f) * b := by rw [Int.mul_assoc, Int.mul_assoc, Int.mul_comm b f]
  have e2 : (e * d) * b = (e * b) * d := by rw [Int.mul_assoc, Int.mul_assoc, Int.mul_comm d b]
  have e3 : (a * d) * f = (a * f) * d := by rw [Int.mul_assoc, Int.mul_assoc, Int.mul_comm d f]
  have h5 : (e * b) * d < (a * f) * d := by rw [← e2, ← e3]; rw [e1] at h3; exact Int.lt_of_lt_of_le h4 h3
  exact Int.lt_of_mul_lt_mul_right h5 (by omega)

/-- 'not below': through -/
theorem cmpP_trans {a b c d e f : Int} (ha : 0 ≤ a) (hb : 0 ≤ b) (hc : 0 ≤ c) (hd : 0 ≤ d) (he : 0 ≤ e) (hf : 0 ≤ f)
    (h1 : 0 ≤ cmpP a b c d) (h2 : 0 ≤ cmpP c d e f) : 0 ≤ cmpP a b e f ∧ (cmpP a b e f = 0 ↔ cmpP a b c d = 0 ∧ cmpP c d e f = 0) := by
  rw [cmpP_eq] at h1 h2 ⊢
  rw [cmpP_eq a b c d, cmpP_eq c d e f]
  rcases ht_cases a b ha hb with ⟨pa, qa⟩ | ⟨pa, pb, qa⟩ | ⟨pa, pb, qa⟩ <;>
  rcases ht_cases c d hc hd with ⟨pc, qc⟩ | ⟨pc, pd, qc⟩ | ⟨pc, pd, qc⟩ <;>
  rcases ht_cases e f he hf with ⟨pe, qe⟩ | ⟨pe, pf, qe⟩ | ⟨pe, pf, qe⟩ <;>
  simp only [qa, qc, qe] at h1 h2 ⊢ <;>
  first
  | (exfalso; revert h1; decide)
  | (exfalso; revert h2; decide)
  | (decide)
  | skip
  all_goals simp [sg_nonneg, sg_zero] at h1 h2 ⊢
  all_goals first
  | done
  | (simp [sg]; done)
  | skip
  · refine ⟨cross_le pb pd pf h1 h2, ?_⟩
    constructor
    · intro h
      rcases Int.lt_or_eq_of_le h1 with h3 | h3
      · have := cross_lt pb pd pf h3 h2; omega
      · rcases Int.lt_or_eq_of_le h2 with h4 | h4
        · have := cross_lt' pb pd pf h1 h4; omega
        · omega
    · rintro ⟨h3, h4⟩
      have r1 := cross_le pb pd pf h1 h2
      have r2 := cross_le (a := e) (b := f) (c := c) (d := d) (e := a) (f := b) pf pd pb (by omega) (by omega)
      omega

theorem cmp_trans {a b c d e f : Int} (h1 : 0 ≤ cmp a b c d) (h2 : 0 ≤ cmp c d e f) :
    0 ≤ cmp a b e f ∧ (cmp a b e f = 0 ↔ cmp a b c d = 0 ∧ cmp c d e f = 0) :=
  cmpP_trans (pl_nonneg _) (pl_nonneg _) (pl_nonneg _) (pl_nonneg _) (pl_nonneg _) (pl_nonneg _) h1 h2


/-- where a denominator is 0, heights decide -/
theorem cmpP_loose {a b c d : Int} (h : b = 0 ∨ d = 0) : cmpP a b c d = sg (ht a b) (ht c d) := by
  rw [cmpP_eq, if_neg]
  rintro ⟨h1, h2⟩
  unfold ht at h1 h2
  rcases h with rfl | rfl
  · split at h1 <;> simp at h1
  · split at h2 <;> simp at h2

theorem cmpP_cross {a b c d : Int} (ha : 0 ≤ a) (hb : 0 < b) (hc : 0 ≤ c) (hd : 0 < d) : cmpP a b c d = sg (a * d) (c * b) := by
  rw [cmpP_eq]
  rcases ht_cases a b ha (by omega) with ⟨rfl, qa⟩ | ⟨pa, pb, qa⟩ | ⟨pa, pb, qa⟩
  · rcases ht_cases c d hc (by omega) with ⟨rfl, qc⟩ | ⟨pc, pd, qc⟩ | ⟨pc, pd, qc⟩
    · simp [qa, qc]
    · omega
    · rw [if_neg (by omega), qa, qc, sg_lt (by omega), sg_lt]
      have := Int.mul_pos pc hb; omega
  · omega
  · rcases ht_cases c d hc (by omega) with ⟨rfl, qc⟩ | ⟨pc, pd, qc⟩ | ⟨pc, pd, qc⟩
    · rw [if_neg (by omega), qa, qc, sg_gt (by omega), sg_gt]
      have := Int.mul_pos pa hd; omega
    · omega
    · rw [if_pos ⟨qa, qc⟩]

theorem euclid_diff (a b c d : Int) (h : a / b = c / d) : a * d - c * b = a % b * d - c % d * b := by
  have h1 := Int.mul_ediv_add_emod a b
  have h2 := Int.mul_ediv_add_emod c d
  rw [h] at h1
  have e1 : a * d = b * (c / d) * d + a % b * d := by rw [← Int.add_mul, h1]
  have e2 : c * b = d * (c / d) * b + c % d * b := by rw [← Int.add_mul, h2]
  have e3 : b * (c / d) * d = d * (c / d) * b := by rw [Int.mul_comm b, Int.mul_assoc, Int.mul_comm b d, ← Int.mul_assoc, Int.mul_comm d]
  omega

theorem div_lt_cross {a b c d : Int} (hb : 0 < b) (hd : 0 < d) (h : a / b < c / d) : a * d < c * b := by
  have h1 : a < (a / b + 1) * b := by have := Int.lt_mul_ediv_self_add (x := a) hb; rw [Int.add_mul, Int.one_mul, Int.mul_comm]; exact this
  have h2 : c / d * d ≤ c := Int.ediv_mul_le c (by omega)
  have h3 : (a / b + 1) * b * d ≤ c / d * b * d := Int.mul_le_mul_of_nonneg_right (Int.mul_le_mul_of_nonneg_right (by omega) (by omega)) (by omega)
  have h4 : a * d < (a / b + 1) * b * d := Int.mul_lt_mul_of_pos_right h1 hd
  have h5 : c / d * d * b ≤ c * b := Int.mul_le_mul_of_nonneg_right h2 (by omega)
  have h6 : c / d * d * b = c / d * b * d := by rw [Int.mul_assoc, Int.mul_comm d b, Int.mul_assoc]
  omega

theorem cmpP_div_gt {a b c d : Int} (ha : 0 ≤ a) (hb : 0 < b) (hc : 0 ≤ c) (hd : 0 < d) (h : c / d < a / b) : cmpP a b c d = 1 := by
  rw [cmpP_cross ha hb hc hd]; exact sg_gt (div_lt_cross hd hb h)
theorem cmpP_div_lt {a b c d : Int} (ha : 0 ≤ a) (hb : 0 < b) (hc : 0 ≤ c) (hd : 0 < d) (h : a / b < c / d) : cmpP a b c d = -1 := by
  rw [cmpP_cross ha hb hc hd]; exact sg_lt (div_lt_cross hb hd h)
theorem cmpP_mod_gt {a b c d : Int} (ha : 0 ≤ a) (hb : 0 < b) (hc : 0 ≤ c) (hd : 0 < d) (h : a / b = c / d) (h1 : 0 < a % b) (h2 : c % d = 0) : cmpP a b c d = 1 := by
  rw [cmpP_cross ha hb hc hd]
  have := euclid_diff a b c d h
  rw [h2] at this
  have h3 := Int.mul_pos h1 hd
  exact sg_gt (by omega)
theorem cmpP_mod_lt {a b c d : Int} (ha : 0 ≤ a) (hb : 0 < b) (hc : 0 ≤ c) (hd : 0 < d) (h : a / b = c / d) (h1 : a % b = 0) (h2 : 0 < c % d) : cmpP a b c d = -1 := by
  rw [cmpP_cross ha hb hc hd]
  have := euclid_diff a b c d h
  rw [h1] at this
  have h3 := Int.mul_pos h2 hb
  exact sg_lt (by omega)
theorem cmpP_mod_eq {a b c d : Int} (ha : 0 ≤ a) (hb : 0 < b) (hc : 0 ≤ c) (hd : 0 < d) (h : a / b = c / d) (h1 : a % b = 0) (h2 : c % d = 0) : cmpP a b c d = 0 := by
  rw [cmpP_cross ha hb hc hd]
  have := euclid_diff a b c d h
  rw [h1, h2] at this
  exact sg_eq (by omega)
theorem sg_diff {x y x' y' : Int} (h : x - y = x' - y') : sg x y = sg x' y' := by
  unfold sg
  (repeat' split) <;> omega
theorem cmpP_step {a b c d : Int} (ha : 0 ≤ a) (hb : 0 < b) (hc : 0 ≤ c) (hd : 0 < d) (h : a / b = c / d) (h1 : 0 < a % b) (h2 : 0 < c % d) :
    cmpP a b c d = cmpP d (c % d) b (a % b) := by
  rw [cmpP_cross ha hb hc hd, cmpP_cross (by omega) h2 (by omega) h1]
  have h3 := euclid_diff a b c d h
  have e1 : d * (a % b) = a % b * d := Int.mul_comm _ _
  have e2 : b * (c % d) = c % d * b := Int.mul_comm _ _
  rw [e1, e2]
  exact sg_diff h3

/-- two products of 64 bits stand to one another as their halves do -/
theorem halves (x y : Nat) : (if x / 18446744073709551616 = y / 18446744073709551616 then sg (x % 18446744073709551616 : Nat) (y % 18446744073709551616 : Nat) else sg (x / 18446744073709551616 : Nat) (y / 18446744073709551616 : Nat)) = sg x y := by
  have hx := Nat.div_add_mod x 18446744073709551616
  have hy := Nat.div_add_mod y 18446744073709551616
  split
  · unfold sg
    (repeat' split) <;> omega
  · unfold sg
    (repeat' split) <;> omega

/-- the two halves of a product -/
def hi (x y : Int) : Int := x * y / 18446744073709551616
def lo (x y : Int) : Int := x * y % 18446744073709551616
theorem sg_hi {a b c d : Int} (ha : 0 ≤ a) (hb : 0 ≤ b) (hc : 0 ≤ c) (hd : 0 ≤ d) (h : hi a d ≠ hi c b) : sg (a * d) (c * b) = sg (hi a d) (hi c b) := by
  have h1 := Int.mul_nonneg ha hd
  have h2 := Int.mul_nonneg hc hb
  unfold hi at *
  unfold sg
  generalize a * d = x at *
  generalize c * b = y at *
  (repeat' split) <;> omega
theorem sg_lo {a b c d : Int} (h : hi a d = hi c b) : sg (a * d) (c * b) = sg (lo a d) (lo c b) := by
  unfold hi at h
  unfold sg lo
  generalize a * d = x at *
  generalize c * b = y at *
  (repeat' split) <;> omega
theorem ht_range (a b : Int) : 0 ≤ ht a b ∧ ht a b ≤ 2 := by unfold ht; (repeat' split) <;> omega
theorem cmpP_same {a b c d : Int} (h1 : a = c) (h2 : b = d) : cmpP a b c d = 0 := by unfold cmpP; rw [if_pos ⟨h1, h2⟩]
theorem cmpP_ht {a b c d : Int} (h : ¬ (ht a b = 1 ∧ ht c d = 1)) : cmpP a b c d = sg (ht a b) (ht c d) := by rw [cmpP_eq, if_neg h]
theorem cmpP_mul {a b c d : Int} (h1 : ht a b = 1) (h2 : ht c d = 1) : cmpP a b c d = sg (a * d) (c * b) := by rw [cmpP_eq, if_pos ⟨h1, h2⟩]
end Go.Proofs.Ytnjgkgnjbmfpfaa.Shr
