/- Plain law of lowest terms: Euclid's number divides both; no program in sight. -/
import Derived.Test.YtnjgkgnjbmfpfaaDomM
namespace Go.Proofs.Ytnjgkgnjbmfpfaa.Shr

def gc (p q : Int) : Int := (Nat.gcd p.toNat q.toNat : Nat)
def lowN (n d : Int) : Int := if pl n = 0 then 0 else if pl d = 0 then 1 else pl n / gc (pl n) (pl d)
def lowD (n d : Int) : Int := if pl n = 0 then 1 else if pl d = 0 then 0 else pl d / gc (pl n) (pl d)

theorem gc_zero {p : Int} (h : 0 ≤ p) : gc p 0 = p := by unfold gc; simp; omega
theorem gc_step {p q : Int} (hp : 0 ≤ p) (hq : 0 < q) : gc p q = gc q (p % q) := by
  unfold gc
  obtain ⟨a, rfl⟩ := Int.eq_ofNat_of_zero_le hp
  obtain ⟨b, rfl⟩ := Int.eq_ofNat_of_zero_le (Int.le_of_lt hq)
  have e : ((a : Int) % (b : Int)).toNat = a % b := by rw [← Int.natCast_emod]; exact Int.toNat_natCast _
  rw [e, Int.toNat_natCast, Int.toNat_natCast, Nat.gcd_comm a b, Nat.gcd_rec b a, Nat.gcd_comm]
theorem gc_pos {p q : Int} (hp : 0 < p) : 0 < gc p q := by
  unfold gc
  have := Nat.gcd_pos_of_pos_left (n := q.toNat) (show 0 < p.toNat by omega)
  omega

theorem parts {p q : Int} (hp : 0 < p) (hq : 0 < q) : 1 ≤ p / gc p q ∧ 1 ≤ q / gc p q ∧ p / gc p q ≤ p ∧ q / gc p q ≤ q ∧ (p / gc p q) * q = p * (q / gc p q) ∧ gc (p / gc p q) (q / gc p q) = 1 := by
  unfold gc
  obtain ⟨a, rfl⟩ := Int.eq_ofNat_of_zero_le (Int.le_of_lt hp)
  obtain ⟨b, rfl⟩ := Int.eq_ofNat_of_zero_le (Int.le_of_lt hq)
  simp only [Int.toNat_natCast]
  have ha : 0 < a := by omega
  have hb : 0 < b := by omega
  have hg : 0 < Nat.gcd a b := Nat.gcd_pos_of_pos_left b ha
  have da := Nat.gcd_dvd_left a b
  have db := Nat.gcd_dvd_right a b
  have hl1 : Nat.gcd a b ≤ a := Nat.le_of_dvd ha da
  have hl2 : Nat.gcd a b ≤ b := Nat.le_of_dvd hb db
  have h1 : 1 ≤ a / Nat.gcd a b := (Nat.one_le_div_iff hg).2 hl1
  have h2 : 1 ≤ b / Nat.gcd a b := (Nat.one_le_div_iff hg).2 hl2
  have h3 : a / Nat.gcd a b ≤ a := Nat.div_le_self _ _
  have h4 : b / Nat.gcd a b ≤ b := Nat.div_le_self _ _
  have h5 : Nat.gcd (a / Nat.gcd a b) (b / Nat.gcd a b) = 1 := by rw [Nat.gcd_div da db, Nat.div_self hg]
  have h6 : (a / Nat.gcd a b) * b = a * (b / Nat.gcd a b) := by
    rw [Nat.div_mul_right_comm da, Nat.mul_div_assoc a db]
  rw [← Int.natCast_ediv, ← Int.natCast_ediv]
  simp only [Int.toNat_natCast]
  rw [h5]
  refine ⟨by omega, by omega, by omega, by omega, ?_, rfl⟩
  rw [← Int.natCast_mul, ← Int.natCast_mul, h6]

theorem low_range {n d : Int} (hn : n ≤ 9223372036854775807) (hd : d ≤ 9223372036854775807) : 0 ≤ lowN n d ∧ lowN n d ≤ 9223372036854775807 ∧ 0 ≤ lowD n d ∧ lowD n d ≤ 9223372036854775807 := by
  have h1 := pl_le hn
  have h2 := pl_le hd
  unfold lowN lowD
  by_cases e1 : pl n = 0
  · simp [e1]
  · by_cases e2 : pl d = 0
    · simp [e1, e2]
    · rw [if_neg e1, if_neg e1, if_neg e2, if_neg e2]
      have := parts (p := pl n) (q := pl d) (by omega) (by omega)
      omega

/-- it is the same share -/
theorem low_same (n d : Int) : cmp (lowN n d) (lowD n d) n d = 0 := by
  have h1 := pl_nonneg n
  have h2 := pl_nonneg d
  unfold cmp
  by_cases e1 : pl n = 0
  · have a : lowN n d = 0 := by unfold lowN; rw [if_pos e1]
    have b : lowD n d = 1 := by unfold lowD; rw [if_pos e1]
    rw [a, b, e1, cmpP_eq]
    have q0 : pl 0 = 0 := rfl
    rw [q0]
    simp [ht, sg]
  · by_cases e2 : pl d = 0
    · have a : lowN n d = 1 := by unfold lowN; rw [if_neg e1, if_pos e2]
      have b : lowD n d = 0 := by unfold lowD; rw [if_neg e1, if_pos e2]
      rw [a, b, e2, cmpP_eq]
      have q0 : pl 0 = 0 := rfl
      have q1 : pl 1 = 1 := rfl
      rw [q0, q1]
      simp [ht, sg, e1]
    · have a : lowN n d = pl n / gc (pl n) (pl d) := by unfold lowN; rw [if_neg e1, if_neg e2]
      have b : lowD n d = pl d / gc (pl n) (pl d) := by unfold lowD; rw [if_neg e1, if_neg e2]
      have h := parts (p := pl n) (q := pl d) (by omega) (by omega)
      rw [a, b, pl_of_nonneg (n := pl n / _) (by omega), pl_of_nonneg (n := pl d / _) (by omega), cmpP_cross (by omega) (by omega) (by omega) (by omega)]
      exact sg_eq h.2.2.2.2.1

/-- it is in its lowest terms already -/
theorem low_low (n d : Int) : lowN (lowN n d) (lowD n d) = lowN n d ∧ lowD (lowN n d) (lowD n d) = lowD n d := by
  have h1 := pl_nonneg n
  have h2 := pl_nonneg d
  by_cases e1 : pl n = 0
  · have a : lowN n d = 0 := by unfold lowN; rw [if_pos e1]
    have b : lowD n d = 1 := by unfold lowD; rw [if_pos e1]
    rw [a, b]
    exact ⟨rfl, rfl⟩
  · by_cases e2 : pl d = 0
    · have a : lowN n d = 1 := by unfold lowN; rw [if_neg e1, if_pos e2]
      have b : lowD n d = 0 := by unfold lowD; rw [if_neg e1, if_pos e2]
      rw [a, b]
      exact ⟨rfl, rfl⟩
    · have a : lowN n d = pl n / gc (pl n) (pl d) := by unfold lowN; rw [if_neg e1, if_neg e2]
      have b : lowD n d = pl d / gc (pl n) (pl d) := by unfold lowD; rw [if_neg e1, if_neg e2]
      have h := parts (p := pl n) (q := pl d) (by omega) (by omega)
      rw [a, b]
      generalize pl n / gc (pl n) (pl d) = x at h ⊢
      generalize pl d / gc (pl n) (pl d) = y at h ⊢
      have px : pl x = x := pl_of_nonneg (by omega)
      have py : pl y = y := pl_of_nonneg (by omega)
      unfold lowN lowD
      rw [px, py, if_neg (by omega), if_neg (by omega), if_neg (by omega), if_neg (by omega), h.2.2.2.2.2]
      simp

end Go.Proofs.Ytnjgkgnjbmfpfaa.Shr
