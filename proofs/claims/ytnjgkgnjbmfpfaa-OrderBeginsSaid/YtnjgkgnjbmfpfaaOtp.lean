/- Plain: the document's choice of a turn, job by job. -/
import Derived.Test.YtnjgkgnjbmfpfaaOrm
namespace Go.Proofs.Ytnjgkgnjbmfpfaa.Ot
section
variable {P : Par} {out : List Nat}
theorem cmpU_trans {a b c : Str} (h1 : cmpU P out a b ≤ 0) (h2 : cmpU P out b c ≤ 0) : cmpU P out a c ≤ 0 ∧ (cmpU P out a c = 0 ↔ cmpU P out a b = 0 ∧ cmpU P out b c = 0) := by
  have a1 := cmpU_swap (P := P) out a b
  have a2 := cmpU_swap (P := P) out b c
  have a3 := cmpU_swap (P := P) out a c
  have h := Shr.cmp_trans (a := num P out c) (b := den P out c) (c := num P out b) (d := den P out b) (e := num P out a) (f := den P out a) (by show 0 ≤ cmpU P out c b; omega) (by show 0 ≤ cmpU P out b a; omega)
  have h3 : 0 ≤ cmpU P out c a := h.1
  have h4 : cmpU P out c a = 0 ↔ cmpU P out c b = 0 ∧ cmpU P out b a = 0 := h.2
  refine ⟨by omega, ?_⟩
  constructor
  · intro e
    have := h4.1 (by omega)
    omega
  · intro e
    have := h4.2 (by omega)
    omega
theorem cmpU_self (a : Str) : cmpU P out a a = 0 := Shr.cmp_self _ _
theorem Less.le {i k : Nat} (h : Less P out i k) : cmpU P out (P.js i).user (P.js k).user ≤ 0 := by
  rcases h with ⟨_, h | ⟨h, _⟩⟩ | ⟨h, _⟩
  · omega
  · omega
  · rw [h, cmpU_self]; omega
theorem Less.trans {i j k : Nat} (h : Less P out i j) (h2 : Less P out j k) : Less P out i k := by
  have ht := cmpU_trans h.le h2.le
  by_cases e : (P.js i).user = (P.js k).user
  · -- one user at the ends
    right
    refine ⟨e, ?_⟩
    have e0 : cmpU P out (P.js i).user (P.js k).user = 0 := by rw [e]; exact cmpU_self _
    have h0 := ht.2.1 e0
    rcases h with ⟨hn, h | ⟨_, h⟩⟩ | ⟨hu, h⟩
    · omega
    · rcases h2 with ⟨_, h3 | ⟨_, h3⟩⟩ | ⟨hu2, _⟩
      · omega
      · rw [e] at h
        exact absurd h3 (List.lt_asymm h)
      · exact absurd (e.trans hu2.symm) hn
    · rcases h2 with ⟨hn, _⟩ | ⟨_, h3⟩
      · exact absurd (hu.symm.trans e) hn
      · exact prJ_trans h h3
  · left
    refine ⟨e, ?_⟩
    by_cases c : cmpU P out (P.js i).user (P.js k).user = 0
    · right
      refine ⟨c, ?_⟩
      have h0 := ht.2.1 c
      rcases h with ⟨_, h | ⟨_, h⟩⟩ | ⟨hu, _⟩
      · omega
      · rcases h2 with ⟨_, h3 | ⟨_, h3⟩⟩ | ⟨hu2, _⟩
        · omega
        · exact List.lt_trans h h3
        · rw [← hu2]; exact h
      · rcases h2 with ⟨_, h3 | ⟨_, h3⟩⟩ | ⟨hu2, _⟩
        · omega
        · rw [hu]; exact h3
        · exact absurd (hu.trans hu2) e
    · left; have := ht.1; omega
theorem str_total {a b : Str} (h : a ≠ b) : a < b ∨ b < a := by
  by_cases h1 : a < b
  · exact Or.inl h1
  · right
    have h2 : b ≤ a := List.not_lt.1 h1
    rcases List.le_iff_lt_or_eq.1 h2 with c | c
    · exact c
    · exact absurd c.symm h
theorem Less.total {i k : Nat} (h : i ≠ k) : Less P out i k ∨ Less P out k i := by
  by_cases e : (P.js i).user = (P.js k).user
  · have ht := (ordJ P.js (max i k + 1)).total (i : Int) (k : Int) ⟨i, by omega, rfl⟩ ⟨k, by omega, rfl⟩ (by omega)
    rcases ht with c | c
    · exact Or.inl (Or.inr ⟨e, c⟩)
    · exact Or.inr (Or.inr ⟨e.symm, c⟩)
  · have hs := cmpU_swap (P := P) out (P.js i).user (P.js k).user
    by_cases c : cmpU P out (P.js i).user (P.js k).user = 0
    · rcases str_total e with h1 | h1
      · exact Or.inl (Or.inl ⟨e, Or.inr ⟨c, h1⟩⟩)
      · exact Or.inr (Or.inl ⟨fun d => e d.symm, Or.inr ⟨by omega, h1⟩⟩)
    · by_cases d : cmpU P out (P.js i).user (P.js k).user < 0
      · exact Or.inl (Or.inl ⟨e, Or.inl d⟩)
      · exact Or.inr (Or.inl ⟨fun d => e d.symm, Or.inl (by omega)⟩)
end
/-- the best of the first i jobs that are not told, and its share -/
def Bst (P : Par) (out : List Nat) (i : Nat) (b x y : Int) : Prop :=
  (b = -1 ∧ (∀ j, j < i → j ∈ out) ∧ x = 0 ∧ y = 0) ∨ ∃ q : Nat, b = q ∧ q < i ∧ q ∉ out ∧ (∀ j, j < i → j ∉ out → j ≠ q → Less P out q j) ∧ x = num P out (P.js q).user ∧ y = den P out (P.js q).user
section
variable {P : Par} {out : List Nat} {i : Nat} {b x y : Int}
theorem Bst.skip (h : Bst P out i b x y) (hi : i ∈ out) : Bst P out (i + 1) b x y := by
  rcases h with ⟨h1, h2, h3⟩ | ⟨q, h1, h2, h3, h4, h5⟩
  · exact Or.inl ⟨h1, fun j hj => by by_cases e : j = i; (· rw [e]; exact hi); (· exact h2 j (by omega)), h3⟩
  · exact Or.inr ⟨q, h1, by omega, h3, fun j hj ho hne => h4 j (by have : j ≠ i := fun e => ho (by rw [e]; exact hi); omega) ho hne, h5⟩
theorem Bst.first (h : Bst P out i b x y) (hb : b < 0) (hi : i ∉ out) : Bst P out (i + 1) i (num P out (P.js i).user) (den P out (P.js i).user) := by
  rcases h with ⟨h1, h2, _⟩ | ⟨q, h1, _⟩
  · exact Or.inr ⟨i, rfl, by omega, hi, fun j hj ho hne => absurd (h2 j (by omega)) ho, rfl, rfl⟩
  · omega
theorem Bst.turn {q : Nat} (h : Bst P out i q x y) (hi : i ∉ out) (hl : Less P out i q) : Bst P out (i + 1) i (num P out (P.js i).user) (den P out (P.js i).user) := by
  rcases h with ⟨h1, _⟩ | ⟨q', h1, h2, h3, h4, _⟩
  · omega
  · obtain rfl : q = q' := by omega
    refine Or.inr ⟨i, rfl, by omega, hi, fun j hj ho hne => ?_, rfl, rfl⟩
    by_cases e : j = q
    · rw [e]; exact hl
    · exact hl.trans (h4 j (by omega) ho e)
theorem Bst.stay {q : Nat} (h : Bst P out i q x y) (hl : ¬ Less P out i q) : Bst P out (i + 1) q x y := by
  rcases h with ⟨h1, _⟩ | ⟨q', h1, h2, h3, h4, h5⟩
  · omega
  · obtain rfl : q = q' := by omega
    refine Or.inr ⟨q, rfl, by omega, h3, fun j hj ho hne => ?_, h5⟩
    by_cases e : j = i
    · rw [e] at hne ⊢
      rcases Less.total (P := P) (out := out) hne with c | c
      · exact absurd c hl
      · exact c
    · exact h4 j (by omega) ho hne
theorem Bst.next (h : Bst P out P.n b x y) (hl : ∃ j, j < P.n ∧ j ∉ out) : ∃ q : Nat, b = q ∧ Next P out q := by
  rcases h with ⟨_, h2, _⟩ | ⟨q, h1, h2, h3, h4, _⟩
  · obtain ⟨j, hj, ho⟩ := hl
    exact absurd (h2 j hj) ho
  · exact ⟨q, h1, h2, h3, h4⟩
/-- of a job behind the best one: what the document asks -/
theorem less_iff {q : Nat} (hq : q < i) : Less P out i q ↔ ((P.js i).user = (P.js q).user ∧ ((P.js q).prio < (P.js i).prio ∨ ((P.js q).prio = (P.js i).prio ∧ (P.js i).id < (P.js q).id))) ∨ ((P.js i).user ≠ (P.js q).user ∧ (cmpU P out (P.js i).user (P.js q).user < 0 ∨ (cmpU P out (P.js i).user (P.js q).user = 0 ∧ (P.js i).user < (P.js q).user))) := by
  unfold Less
  rw [prJ_iff]
  simp only [Int.toNat_natCast]
  constructor
  · rintro (h | ⟨h1, h2⟩)
    · exact Or.inr h
    · refine Or.inl ⟨h1, ?_⟩
      omega
  · rintro (⟨h1, h2⟩ | h)
    · refine Or.inr ⟨h1, ?_⟩
      omega
    · exact Or.inl h
end
end Go.Proofs.Ytnjgkgnjbmfpfaa.Ot
