/- A graph that is finished well, job by job: plain numbers. -/
import Derived.Test.YtecimlbdcldkdaaOkg
namespace Go.Proofs.Ytecimlbdcldkdaa
open Go.RowKit Go.Maps Dep

/-- which have been ready, and which are over -/
structure EndAt (s : GS) (M D : List Nat) : Prop where
  ok : Okg s
  mn : M.Nodup
  m : ∀ y, y ∈ M ↔ ∃ k, k < s.N ∧ s.id k = y ∧ (s.ov k = true ∨ s.ws k = [])
  dn : D.Nodup
  d : ∀ y, y ∈ D ↔ ∃ k, k < s.N ∧ s.id k = y ∧ s.ov k = true
theorem ids_len (s : GS) : s.ids.length = s.N := by unfold GS.ids; simp
theorem Okg.idn {s : GS} (h : Okg s) : s.ids.Nodup := by
  unfold GS.ids
  unfold List.Nodup
  rw [List.pairwise_map]
  refine List.Pairwise.imp_of_mem ?_ (List.nodup_range (n := s.N))
  intro a b ha hb hne e
  exact hne (h.inj a b (List.mem_range.1 ha) (List.mem_range.1 hb) e)
section
variable {s : GS} {M D : List Nat}
theorem EndAt.dlen (h : EndAt s M D) : D.length ≤ s.N := by
  rw [← ids_len s]
  exact nodup_sub_len h.dn fun y hy => by
    obtain ⟨k, hk, e, _⟩ := (h.d y).1 hy
    exact mem_ids.2 ⟨k, hk, e⟩
theorem EndAt.mlen (h : EndAt s M D) : M.length ≤ s.N := by
  rw [← ids_len s]
  exact nodup_sub_len h.mn fun y hy => by
    obtain ⟨k, hk, e, _⟩ := (h.m y).1 hy
    exact mem_ids.2 ⟨k, hk, e⟩
theorem EndAt.one (h : EndAt s M D) (hl : D.length < s.N) : ∃ k, k < s.N ∧ s.ov k = false := by
  apply Classical.byContradiction
  intro hn
  have : s.ids.length ≤ D.length := nodup_sub_len h.ok.idn fun y hy => by
    obtain ⟨k, hk, e⟩ := mem_ids.1 hy
    refine (h.d y).2 ⟨k, hk, e, ?_⟩
    cases c : s.ov k with
    | true => rfl
    | false => exact absurd ⟨k, hk, c⟩ hn
  rw [ids_len] at this
  omega
theorem EndAt.all (h : EndAt s M D) (hl : ¬ D.length < s.N) : (∀ k, k < s.N → s.ov k = true) ∧ M.length = s.N := by
  have hall : ∀ k, k < s.N → s.ov k = true := fun k hk => by
    cases c : s.ov k with
    | true => rfl
    | false =>
      exfalso
      have hnot : s.id k ∉ D := fun hm => by
        obtain ⟨q, hq, e, ho⟩ := (h.d _).1 hm
        have := h.ok.inj q k hq hk e
        rw [this, c] at ho
        cases ho
      have hnd : (s.id k :: D).Nodup := List.nodup_cons.2 ⟨hnot, h.dn⟩
      have := nodup_sub_len (l2 := s.ids) hnd fun y hy => by
        rcases List.mem_cons.1 hy with e | hy
        · rw [e]; exact mem_ids.2 ⟨k, hk, rfl⟩
        · obtain ⟨q, hq, e, _⟩ := (h.d y).1 hy
          exact mem_ids.2 ⟨q, hq, e⟩
      rw [ids_len, List.length_cons] at this
      omega
  refine ⟨hall, Nat.le_antisymm h.mlen ?_⟩
  rw [← ids_len s]
  exact nodup_sub_len h.ok.idn fun y hy => by
    obtain ⟨k, hk, e⟩ := mem_ids.1 hy
    exact (h.m y).2 ⟨k, hk, e, Or.inl (hall k hk)⟩
/-- one more is finished well -/
theorem EndAt.step (h : EndAt s M D) {i : Nat} (hi : i < s.N) (ho : s.ov i = false) (hw : s.ws i = []) {ov' : Nat → Bool} (hf : FinOv s i true ov') {R : List Nat} (hr : R.Pairwise (· < ·))
    (hR : ∀ y, y ∈ R ↔ ∃ k, k < s.N ∧ s.id k = y ∧ y ∈ s.bl i ∧ ov' k = false ∧ wsP s i (s.bl i).length k = []) :
    EndAt { s with ov := ov', wl := upd s.wl i true, ws := wsP s i (s.bl i).length } (M ++ R) (D ++ [s.id i]) ∧ (∀ (j y : Nat), R[j]? = some y → y ∉ M ++ R.take j) ∧ s.id i ∉ D := by
  have hov : ∀ k, k < s.N → k ≠ i → ov' k = s.ov k := fun k hk hne => by rw [hf.good rfl k hk, upd_other _ _ hne]
  have hnd : R.Nodup := hr.imp fun h => by omega
  have hRM : ∀ y ∈ R, y ∉ M := fun y hy hm => by
    obtain ⟨k, hk, e, hb, h1, _⟩ := (hR y).1 hy
    obtain ⟨q, hq, e2, h2⟩ := (h.m y).1 hm
    have : q = k := h.ok.inj q k hq hk (e2.trans e.symm)
    subst this
    have hne : q ≠ i := fun c => by rw [c, hf.own] at h1; cases h1
    rw [hov q hq hne] at h1
    rcases h2 with h2 | h2
    · rw [h1] at h2; cases h2
    · have : s.id i ∈ s.ws q := (h.ok.w q hq h1 _).2 ⟨i, hi, rfl, ho, by rw [e]; exact hb⟩
      rw [h2] at this
      cases this
  have hiD : s.id i ∉ D := fun hm => by
    obtain ⟨q, hq, e, h1⟩ := (h.d _).1 hm
    rw [h.ok.inj q i hq hi e, ho] at h1
    cases h1
  refine ⟨⟨h.ok.fin hi hf, ?_, fun y => ?_, ?_, fun y => ?_⟩, fun j y hy => ?_, hiD⟩
  · rw [List.nodup_append]
    exact ⟨h.mn, hnd, fun a ha b hb e => hRM b hb (by rw [← e]; exact ha)⟩
  · show y ∈ M ++ R ↔ ∃ k, k < s.N ∧ s.id k = y ∧ (ov' k = true ∨ wsP s i (s.bl i).length k = [])
    rw [List.mem_append]
    constructor
    · rintro (hy | hy)
      · obtain ⟨k, hk, e, h1⟩ := (h.m y).1 hy
        refine ⟨k, hk, e, ?_⟩
        rcases h1 with h1 | h1
        · exact Or.inl (hf.old k h1)
        · right
          unfold wsP
          split
          · rw [h1]; rfl
          · exact h1
      · obtain ⟨k, hk, e, _, _, h1⟩ := (hR y).1 hy
        exact ⟨k, hk, e, Or.inr h1⟩
    · rintro ⟨k, hk, e, h1⟩
      by_cases hki : k = i
      · left
        rw [hki] at e
        exact (h.m y).2 ⟨i, hi, e, Or.inr hw⟩
      · rcases h1 with h1 | h1
        · left
          rw [hov k hk hki] at h1
          exact (h.m y).2 ⟨k, hk, e, Or.inl h1⟩
        · cases c : ov' k with
          | true =>
            left
            rw [hov k hk hki] at c
            exact (h.m y).2 ⟨k, hk, e, Or.inl c⟩
          | false =>
            by_cases hb : y ∈ s.bl i
            · right
              exact (hR y).2 ⟨k, hk, e, hb, c, h1⟩
            · left
              rw [wsP_out (by rw [List.take_length, e]; exact hb)] at h1
              exact (h.m y).2 ⟨k, hk, e, Or.inr h1⟩
  · rw [List.nodup_append]
    refine ⟨h.dn, by simp, fun a ha b hb e => ?_⟩
    simp at hb
    rw [e, hb] at ha
    exact hiD ha
  · show y ∈ D ++ [s.id i] ↔ ∃ k, k < s.N ∧ s.id k = y ∧ ov' k = true
    rw [List.mem_append, List.mem_singleton, h.d]
    constructor
    · rintro (⟨k, hk, e, h1⟩ | e)
      · exact ⟨k, hk, e, hf.old k h1⟩
      · exact ⟨i, hi, e.symm, hf.own⟩
    · rintro ⟨k, hk, e, h1⟩
      by_cases hki : k = i
      · right; rw [← e, hki]
      · left
        rw [hov k hk hki] at h1
        exact ⟨k, hk, e, h1⟩
  · rw [List.mem_append]
    rintro (hm | hm)
    · exact hRM y (List.mem_of_getElem? hy) hm
    · exact take_not hnd hy hm
end
end Go.Proofs.Ytecimlbdcldkdaa
