/- What a graph keeps, in plain numbers. -/
import Derived.Test.YtecimlbdcldkdaaFin
namespace Go.Proofs.Ytecimlbdcldkdaa
open Go.RowKit Go.Maps Dep

/-- what a graph keeps -/
structure Okg (s : GS) : Prop where
  inj : ∀ i k, i < s.N → k < s.N → s.id i = s.id k → i = k
  up : ∀ k, k < s.N → ∀ y ∈ s.bl k, ∃ i, k < i ∧ i < s.N ∧ s.id i = y
  nd : ∀ k, k < s.N → (s.bl k).Nodup
  w : ∀ i, i < s.N → s.ov i = false → ∀ y, y ∈ s.ws i ↔ ∃ k, k < s.N ∧ s.id k = y ∧ s.ov k = false ∧ s.id i ∈ s.bl k
theorem Okg.none : Okg GS.none := ⟨fun _ _ h => absurd h (Nat.not_lt_zero _), fun _ h => absurd h (Nat.not_lt_zero _), fun _ h => absurd h (Nat.not_lt_zero _), fun _ h => absurd h (Nat.not_lt_zero _)⟩
section
variable {s s' : GS}
theorem Okg.ids (h : Okg s) : ∀ k, k < s.N → ∀ y ∈ s.bl k, y ∈ s.ids := fun k hk y hy => by
  obtain ⟨i, _, hi, e⟩ := h.up k hk y hy
  exact mem_ids.2 ⟨i, hi, e⟩
theorem Okg.blen (h : Okg s) {k : Nat} (hk : k < s.N) : (s.bl k).length ≤ s.N := by
  have := nodup_sub_len (h.nd k hk) (h.ids k hk)
  unfold GS.ids at this
  simpa using this
theorem Okg.add (h : Okg s) {k n : Nat} {e : Nat → Int} {b : Bool} (ha : Added s s' k n e b) (hk : ¬ ∃ i, i < s.N ∧ s.id i = k) : Okg s' := by
  have hid : ∀ i, i < s.N → s'.id i = s.id i := fun i hi => by rw [ha.id, upd_other _ _ (by omega)]
  have hidN : s'.id s.N = k := by rw [ha.id, upd_same]
  have hov : ∀ i, i < s.N → s'.ov i = s.ov i := fun i hi => by rw [ha.ov, upd_other _ _ (by omega)]
  have hbl : ∀ i, i < s.N → ∀ y, y ∈ s'.bl i ↔ y ∈ s.bl i ∨ (y = k ∧ s.ov i = false ∧ ∃ j, j < n ∧ e j = (s.id i : Int)) := fun i hi y => by
    by_cases c : s.ov i = false ∧ ∃ j, j < n ∧ e j = (s.id i : Int)
    · rw [(ha.bl i hi).1 c, List.mem_append, List.mem_singleton]
      exact ⟨fun h => h.imp id fun h => ⟨h, c⟩, fun h => h.imp id fun h => h.1⟩
    · rw [(ha.bl i hi).2 c]
      exact ⟨Or.inl, fun h => h.elim id fun h => absurd h.2 c⟩
  have hold : ∀ i, i < s.N → ∀ y ∈ s.bl i, y ≠ k := fun i hi y hy e1 => by
    obtain ⟨q, _, hq, e2⟩ := h.up i hi y hy
    exact hk ⟨q, hq, e2.trans e1⟩
  have hblN : s'.bl s.N = [] := ha.bn
  refine ⟨fun i q hi hq e1 => ?_, fun i hi y hy => ?_, fun i hi => ?_, fun i hi ho y => ?_⟩
  · rw [ha.N] at hi hq
    by_cases c : i = s.N
    · by_cases c2 : q = s.N
      · omega
      · rw [c, hidN, hid q (by omega)] at e1
        exact absurd ⟨q, by omega, e1.symm⟩ hk
    · by_cases c2 : q = s.N
      · rw [c2, hidN, hid i (by omega)] at e1
        exact absurd ⟨i, by omega, e1⟩ hk
      · rw [hid i (by omega), hid q (by omega)] at e1
        exact h.inj i q (by omega) (by omega) e1
  · rw [ha.N] at hi ⊢
    by_cases c : i = s.N
    · rw [c, hblN] at hy; cases hy
    · have hi2 : i < s.N := by omega
      rcases (hbl i hi2 y).1 hy with h1 | ⟨h1, _⟩
      · obtain ⟨q, h2, h3, h4⟩ := h.up i hi2 y h1
        exact ⟨q, h2, by omega, by rw [hid q h3]; exact h4⟩
      · exact ⟨s.N, hi2, by omega, by rw [hidN, h1]⟩
  · rw [ha.N] at hi
    by_cases c : i = s.N
    · rw [c, hblN]; exact List.nodup_nil
    · have hi2 : i < s.N := by omega
      by_cases c2 : s.ov i = false ∧ ∃ j, j < n ∧ e j = (s.id i : Int)
      · rw [(ha.bl i hi2).1 c2, List.nodup_append]
        refine ⟨h.nd i hi2, by simp, fun a hy z hz e1 => ?_⟩
        simp at hz
        exact hold i hi2 a hy (e1.trans hz)
      · rw [(ha.bl i hi2).2 c2]; exact h.nd i hi2
  · rw [ha.N] at hi ⊢
    by_cases c : i = s.N
    · subst c
      rw [ha.ws, hidN]
      constructor
      · rintro ⟨⟨q, hq, e1, e2⟩, hj⟩
        have e1' : s.id q = y := by omega
        refine ⟨q, by omega, by rw [hid q hq]; exact e1', by rw [hov q hq]; exact e2, (hbl q hq k).2 (Or.inr ⟨rfl, e2, ?_⟩)⟩
        rw [e1']; exact hj
      · rintro ⟨q, hq, e1, e2, e3⟩
        by_cases c : q = s.N
        · rw [c, hblN] at e3; cases e3
        · have hq2 : q < s.N := by omega
          rw [hid q hq2] at e1
          rw [hov q hq2] at e2
          rcases (hbl q hq2 k).1 e3 with h1 | ⟨_, _, h1⟩
          · exact absurd rfl (hold q hq2 k h1)
          · rw [e1] at h1
            exact ⟨⟨q, hq2, by omega, e2⟩, h1⟩
    · have hi2 : i < s.N := by omega
      rw [hov i hi2] at ho
      rw [ha.old i hi2, h.w i hi2 ho, hid i hi2]
      constructor
      · rintro ⟨q, hq, e1, e2, e3⟩
        exact ⟨q, by omega, by rw [hid q hq]; exact e1, by rw [hov q hq]; exact e2, (hbl q hq _).2 (Or.inl e3)⟩
      · rintro ⟨q, hq, e1, e2, e3⟩
        by_cases c : q = s.N
        · rw [c, hblN] at e3; cases e3
        · have hq2 : q < s.N := by omega
          rw [hid q hq2] at e1
          rw [hov q hq2] at e2
          rcases (hbl q hq2 _).1 e3 with h1 | ⟨h1, _⟩
          · exact ⟨q, hq2, e1, e2, h1⟩
          · exact absurd ⟨i, hi2, h1⟩ hk
/-- a finish keeps it -/
theorem Okg.fin (h : Okg s) {i : Nat} (_hi : i < s.N) {well : Bool} {ov' : Nat → Bool} (hf : FinOv s i well ov') : Okg { s with ov := ov', wl := upd s.wl i well, ws := wsP s i (s.bl i).length } := by
  refine ⟨h.inj, h.up, h.nd, fun k hk ho y => ?_⟩
  change ov' k = false at ho
  have hok : s.ov k = false := by
    cases c : s.ov k with
    | false => rfl
    | true => rw [hf.old k c] at ho; cases ho
  show y ∈ wsP s i (s.bl i).length k ↔ ∃ q, q < s.N ∧ s.id q = y ∧ ov' q = false ∧ s.id k ∈ s.bl q
  unfold wsP
  rw [List.take_length]
  have hopen : ∀ q, ov' q = false → s.ov q = false := fun q hq => by
    cases c : s.ov q with
    | false => rfl
    | true => rw [hf.old q c] at hq; cases hq
  -- whoever k waits for and is over now: i
  have hstep : ∀ q, q < s.N → s.ov q = false → s.id k ∈ s.bl q → ov' q = true → q = i := fun q hq h1 h2 h3 => by
    by_cases c : q = i
    · exact c
    · exfalso
      cases well with
      | true => rw [hf.good rfl q hq, upd_other _ _ c, h1] at h3; cases h3
      | false => have := hf.next rfl q k hq (by rw [upd_other _ _ c]; exact h1) h3 hk h2; rw [ho] at this; cases this
  split
  · rename_i hm
    rw [List.mem_filter, h.w k hk hok]
    constructor
    · rintro ⟨⟨q, hq, e1, e2, e3⟩, hne⟩
      simp at hne
      refine ⟨q, hq, e1, ?_, e3⟩
      cases c : ov' q with
      | false => rfl
      | true => rw [hstep q hq e2 e3 c] at e1; exact absurd e1.symm hne
    · rintro ⟨q, hq, e1, e2, e3⟩
      refine ⟨⟨q, hq, e1, hopen q e2, e3⟩, ?_⟩
      simp
      intro c
      have : q = i := h.inj q i hq _hi (e1.trans c)
      rw [this, hf.own] at e2
      cases e2
  · rename_i hm
    rw [h.w k hk hok]
    constructor
    · rintro ⟨q, hq, e1, e2, e3⟩
      refine ⟨q, hq, e1, ?_, e3⟩
      cases c : ov' q with
      | false => rfl
      | true => rw [hstep q hq e2 e3 c] at e3; exact absurd e3 hm
    · rintro ⟨q, hq, e1, e2, e3⟩
      exact ⟨q, hq, e1, hopen q e2, e3⟩
/-- where one is open, one is ready -/
theorem Okg.ready (h : Okg s) : ∀ (i : Nat), i < s.N → s.ov i = false → ∃ k, k < s.N ∧ s.ov k = false ∧ s.ws k = [] := by
  intro i
  induction i using Nat.strongRecOn with
  | ind i ih =>
    intro hi ho
    cases c : s.ws i with
    | nil => exact ⟨i, hi, ho, c⟩
    | cons y l =>
      obtain ⟨q, hq, e1, e2, e3⟩ := (h.w i hi ho y).1 (by rw [c]; simp)
      obtain ⟨r, h1, h2, h3⟩ := h.up q hq _ e3
      have : r = i := h.inj r i h2 hi h3
      exact ih q (by omega) hq e2
end
end Go.Proofs.Ytecimlbdcldkdaa
