/- Plain: places in the order of their shares, and the document's choice, round by round; no program in sight. -/
import Derived.Test.YtnjgkgnjbmfpfaaLeastM
import Derived.Test.YtnjgkgnjbmfpfaaSrt
namespace Go.Proofs.Ytnjgkgnjbmfpfaa.Shr
/-- two places' shares -/
def cmpI (p q : Nat → Int) (x y : Int) : Int := cmp (p x.toNat) (q x.toNat) (p y.toNat) (q y.toNat)
/-- a place of n -/
def okI (n : Nat) (x : Int) : Prop := ∃ i : Nat, i < n ∧ x = i
/-- the lesser share comes first; of like ones the lesser place -/
def prI (p q : Nat → Int) (x y : Int) : Prop := cmpI p q x y < 0 ∨ (cmpI p q x y = 0 ∧ x < y)

theorem cmpI_swap (p q : Nat → Int) (x y : Int) : cmpI p q y x = -(cmpI p q x y) := cmp_swap _ _ _ _
theorem cmpI_self (p q : Nat → Int) (x : Int) : cmpI p q x x = 0 := cmp_self _ _
theorem cmpI_trans {p q : Nat → Int} {x y z : Int} (h1 : cmpI p q x y ≤ 0) (h2 : cmpI p q y z ≤ 0) : cmpI p q x z ≤ 0 ∧ (cmpI p q x z = 0 ↔ cmpI p q x y = 0 ∧ cmpI p q y z = 0) := by
  have a1 := cmpI_swap p q x y
  have a2 := cmpI_swap p q y z
  have a3 := cmpI_swap p q x z
  have h := cmp_trans (a := p z.toNat) (b := q z.toNat) (c := p y.toNat) (d := q y.toNat) (e := p x.toNat) (f := q x.toNat) (by show 0 ≤ cmpI p q z y; omega) (by show 0 ≤ cmpI p q y x; omega)
  have h3 : 0 ≤ cmpI p q z x := h.1
  have h4 : cmpI p q z x = 0 ↔ cmpI p q z y = 0 ∧ cmpI p q y x = 0 := h.2
  refine ⟨by omega, ?_⟩
  constructor
  · intro e
    have := h4.1 (by omega)
    omega
  · intro e
    have := h4.2 (by omega)
    omega
theorem prI_trans {p q : Nat → Int} {x y z : Int} (h1 : prI p q x y) (h2 : prI p q y z) : prI p q x z := by
  unfold prI at *
  have h := cmpI_trans (p := p) (q := q) (x := x) (y := y) (z := z) (by omega) (by omega)
  by_cases e : cmpI p q x z = 0
  · have := h.2.1 e
    omega
  · omega
theorem ordI (p q : Nat → Int) (n : Nat) : Srt.Ord (cmpI p q) (okI n) (prI p q) := by
  refine ⟨fun u v _ _ h => ?_, fun u v x _ _ _ h1 h2 => prI_trans h1 h2, fun u v _ _ h => ?_, fun u _ h => ?_⟩
  · unfold prI
    constructor
    · intro h; exact Or.inl h
    · intro h; omega
  · unfold prI
    have := cmpI_swap p q u v
    omega
  · unfold prI at h
    have := cmpI_self p q u
    omega

/-- the place that a round of the document's takes, out of the first k; -1: none is left -/
def pickN (p q : Nat → Int) (out : Nat → Bool) : Nat → Int
  | 0 => -1
  | k + 1 => if out k = true then pickN p q out k else if pickN p q out k < 0 ∨ cmp (p k) (q k) (p (pickN p q out k).toNat) (q (pickN p q out k).toNat) < 0 then (k : Int) else pickN p q out k
theorem pickN_out {p q : Nat → Int} {out : Nat → Bool} {k : Nat} (h : out k = true) : pickN p q out (k + 1) = pickN p q out k := if_pos h
theorem pickN_yes {p q : Nat → Int} {out : Nat → Bool} {k : Nat} (h : out k = false) (h2 : pickN p q out k < 0 ∨ cmp (p k) (q k) (p (pickN p q out k).toNat) (q (pickN p q out k).toNat) < 0) : pickN p q out (k + 1) = k := by
  unfold pickN; rw [if_neg (by simp [h]), if_pos h2]
theorem pickN_no {p q : Nat → Int} {out : Nat → Bool} {k : Nat} (h : out k = false) (h1 : ¬ pickN p q out k < 0) (h2 : ¬ cmp (p k) (q k) (p (pickN p q out k).toNat) (q (pickN p q out k).toNat) < 0) : pickN p q out (k + 1) = pickN p q out k := by
  conv => lhs; unfold pickN
  rw [if_neg (by simp [h]), if_neg (by omega)]
theorem pick_spec (p q : Nat → Int) (out : Nat → Bool) (k : Nat) : (pickN p q out k = -1 ∧ ∀ j, j < k → out j = true) ∨ ∃ b : Nat, b < k ∧ pickN p q out k = b ∧ out b = false ∧ ∀ j : Nat, j < k → out j = false → j = b ∨ prI p q b j := by
  induction k with
  | zero => exact Or.inl ⟨rfl, fun j h => by omega⟩
  | succ k ih =>
    by_cases ho : out k = true
    · rw [pickN_out ho]
      rcases ih with ⟨h1, h2⟩ | ⟨b, h1, h2, h3, h4⟩
      · refine Or.inl ⟨h1, fun j hj => ?_⟩
        by_cases e : j = k
        · rw [e]; exact ho
        · exact h2 j (by omega)
      · refine Or.inr ⟨b, by omega, h2, h3, fun j hj hf => ?_⟩
        by_cases e : j = k
        · rw [e, ho] at hf; cases hf
        · exact h4 j (by omega) hf
    · have ho : out k = false := by simpa using ho
      rcases ih with ⟨h1, h2⟩ | ⟨b, h1, h2, h3, h4⟩
      · rw [pickN_yes ho (Or.inl (by omega))]
        refine Or.inr ⟨k, by omega, rfl, ho, fun j hj hf => ?_⟩
        by_cases e : j = k
        · exact Or.inl e
        · rw [h2 j (by omega)] at hf; cases hf
      · by_cases hc : cmp (p k) (q k) (p b) (q b) < 0
        · rw [pickN_yes ho (Or.inr (by rw [h2]; simpa using hc))]
          have hkb : prI p q (k : Int) (b : Int) := Or.inl (by unfold cmpI; simpa using hc)
          refine Or.inr ⟨k, by omega, rfl, ho, fun j hj hf => ?_⟩
          by_cases e : j = k
          · exact Or.inl e
          · rcases h4 j (by omega) hf with h | h
            · rw [h]; exact Or.inr hkb
            · exact Or.inr (prI_trans hkb h)
        · rw [pickN_no ho (by omega) (by rw [h2]; simpa using hc), h2]
          refine Or.inr ⟨b, by omega, rfl, h3, fun j hj hf => ?_⟩
          by_cases e : j = k
          · subst e
            right
            have e2 : cmpI p q (b : Int) (j : Int) = -(cmp (p j) (q j) (p b) (q b)) := by
              rw [cmpI_swap p q (j : Int) (b : Int)]; unfold cmpI; simp
            unfold prI
            omega
          · exact h4 j (by omega) hf
theorem pick_next {p q : Nat → Int} {n k : Nat} {d : Nat → Int} {out : Nat → Bool} (hs : Srt.Sd (prI p q) 0 n d) (hv : Srt.Val 0 n (fun i => (i : Int)) d) (hk : k < n)
    (ho : ∀ j, j < n → (out j = true ↔ ∃ i, i < k ∧ d i = j)) : pickN p q out n = d k := by
  obtain ⟨x, _, x2, x3⟩ := hv.1 k (Nat.zero_le _) hk
  have irr : ∀ u, ¬ prI p q u u := fun u h => by
    unfold prI at h
    have := cmpI_self p q u
    omega
  have hx : out x = false := by
    rcases Bool.eq_false_or_eq_true (out x) with h | h
    · exfalso
      obtain ⟨i, i1, i2⟩ := (ho x x2).1 h
      have h9 := hs i k (Nat.zero_le _) i1 hk
      rw [i2, x3] at h9
      exact irr _ h9
    · exact h
  rcases pick_spec p q out n with ⟨_, h2⟩ | ⟨b, b1, b2, b3, b4⟩
  · rw [h2 x x2] at hx; cases hx
  · rw [b2, x3]
    rcases b4 x x2 hx with h | h
    · rw [h]
    · exfalso
      obtain ⟨j, _, j2, j3⟩ := hv.2 b (Nat.zero_le _) b1
      have j3' : d j = (b : Int) := j3.symm
      by_cases hjk : j < k
      · have := (ho b b1).2 ⟨j, hjk, j3'⟩
        rw [b3] at this; cases this
      · by_cases e : j = k
        · rw [e, x3] at j3'
          rw [← j3'] at h
          exact irr _ h
        · have h9 := hs k j (Nat.zero_le _) (by omega) j2
          rw [x3, j3'] at h9
          exact irr _ (prI_trans h h9)
end Go.Proofs.Ytnjgkgnjbmfpfaa.Shr
