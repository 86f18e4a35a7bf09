/- A graph of which one job was finished not well: plain numbers. -/
import Derived.Test.YtecimlbdcldkdaaActB
namespace Go.Proofs.Ytecimlbdcldkdaa
open Go.RowKit Go.Maps Dep

/-- a graph behind its bad end: B is bad, L the doomed, D all that are over -/
structure DoomAt (n B : Nat) (L : List Nat) (s : GS) (D : List Nat) : Prop where
  N : s.N = n
  e : ∃ M, EndAt s M D
  b : ∃ k, k < s.N ∧ s.id k = B ∧ s.ov k = true ∧ s.wl k = false
  l : ∀ y ∈ L, y ∈ D
theorem DoomAt.first {s : GS} (h : Okg s) (hop : ∀ k, k < s.N → s.ov k = false) {i : Nat} (hi : i < s.N) {ov' : Nat → Bool} (hf : FinOv s i false ov') {L : List Nat} (hr : L.Pairwise (· < ·))
    (hL : ∀ y, y ∈ L ↔ ∃ k, k < s.N ∧ s.id k = y ∧ upd s.ov i true k = false ∧ ov' k = true) :
    s.id i ∉ L ∧ DoomAt s.N (s.id i) L { s with ov := ov', wl := upd s.wl i false, ws := wsP s i (s.bl i).length } (s.id i :: L) := by
  have hnot : s.id i ∉ L := fun hm => by
    obtain ⟨k, hk, e, h1, _⟩ := (hL _).1 hm
    rw [h.inj k i hk hi e, upd_same] at h1
    cases h1
  refine ⟨hnot, rfl, EndAt.mk' (h.fin hi hf) (List.nodup_cons.2 ⟨hnot, hr.imp fun h => by omega⟩) fun y => ?_, ⟨i, hi, rfl, hf.own, upd_same _ _ _⟩, fun y hy => List.mem_cons_of_mem _ hy⟩
  show y ∈ s.id i :: L ↔ ∃ k, k < s.N ∧ s.id k = y ∧ ov' k = true
  rw [List.mem_cons, hL]
  constructor
  · rintro (e | ⟨k, hk, e, _, h1⟩)
    · exact ⟨i, hi, e.symm, hf.own⟩
    · exact ⟨k, hk, e, h1⟩
  · rintro ⟨k, hk, e, h1⟩
    by_cases c : k = i
    · left; rw [← e, c]
    · right; exact ⟨k, hk, e, by rw [upd_other _ _ c]; exact hop k hk, h1⟩
section
variable {n B : Nat} {L D : List Nat} {s : GS}
theorem DoomAt.ok (h : DoomAt n B L s D) : Okg s := h.e.elim fun _ h => h.ok
theorem DoomAt.len (h : DoomAt n B L s D) : D.length ≤ n := by obtain ⟨M, hM⟩ := h.e; rw [← h.N]; exact hM.dlen
theorem DoomAt.over (h : DoomAt n B L s D) {i : Nat} (hi : i < s.N) (ho : s.ov i = false) : s.id i ∉ L := fun hm => by
  obtain ⟨M, hM⟩ := h.e
  obtain ⟨k, hk, e, h1⟩ := (hM.d _).1 (h.l _ hm)
  rw [h.ok.inj k i hk hi e, ho] at h1
  cases h1
theorem DoomAt.step (h : DoomAt n B L s D) {i : Nat} (hi : i < s.N) (ho : s.ov i = false) (hw : s.ws i = []) {ov' : Nat → Bool} (hf : FinOv s i true ov') {R : List Nat} (hr : R.Pairwise (· < ·))
    (hR : ∀ y, y ∈ R ↔ ∃ k, k < s.N ∧ s.id k = y ∧ y ∈ s.bl i ∧ ov' k = false ∧ wsP s i (s.bl i).length k = []) :
    DoomAt n B L { s with ov := ov', wl := upd s.wl i true, ws := wsP s i (s.bl i).length } (D ++ [s.id i]) := by
  obtain ⟨M, hM⟩ := h.e
  obtain ⟨k, hk, e, h1, h2⟩ := h.b
  refine ⟨h.N, ⟨_, (hM.step hi ho hw hf hr hR).1⟩, ⟨k, hk, e, hf.old k h1, ?_⟩, fun y hy => List.mem_append_left _ (h.l y hy)⟩
  show upd s.wl i true k = false
  rw [upd_other _ _ (fun c => by rw [c, ho] at h1; cases h1)]
  exact h2
theorem DoomAt.one (h : DoomAt n B L s D) (hl : D.length < n) : ∃ k, k < s.N ∧ s.ov k = false ∧ s.ws k = [] := by
  obtain ⟨M, hM⟩ := h.e
  obtain ⟨k, hk, ho⟩ := hM.one (by rw [h.N]; exact hl)
  exact h.ok.ready k hk ho
theorem DoomAt.all (h : DoomAt n B L s D) (hl : ¬ D.length < n) : ∀ k, k < s.N → s.ov k = true := by
  obtain ⟨M, hM⟩ := h.e
  exact (hM.all (by rw [h.N]; exact hl)).1
/-- what the last Add does -/
theorem DoomAt.last (h : DoomAt n B L s D) (hl : ¬ D.length < n) {base : Nat} {d : GD} {x : Int} {w w' : World} {b : Bool} {er : Int} (hx : 1 ≤ x) (hG : Gm w base d s) (hA : ActSaidB base d s x 1 (fun _ => (B : Int)) w b er w') :
    (er = 51 ∨ (b = true ∧ er = 0)) ∧ ∃ d' s', d'.G = d.G ∧ Gm w' base d' s' ∧ s'.N ≤ n + 1 ∧ (∀ k, k < s'.N → s'.ov k = true) ∧ Eff w w' (Foot d s) := by
  have hall := h.all hl
  obtain ⟨k, hk, e, h1, h2⟩ := h.b
  rcases hA with ⟨_, rfl, rfl, ⟨h3, _⟩ | ⟨_, _, h3⟩ | ⟨_, _, ⟨j, _, h3⟩, _⟩⟩ | ⟨h3, _, _, _, kk, d', s', h4, h5, h6, h7, h8, h9, h10⟩
  · omega
  · exact ⟨Or.inl h3, d, s, rfl, hG, by rw [h.N]; omega, hall, Eff.refl _ _⟩
  · exact absurd ⟨k, hk, by rw [e]⟩ h3
  · have hb : b = true := h5.bad.2 ⟨0, by omega, k, hk, by rw [e], h1, h2⟩
    refine ⟨Or.inr ⟨hb, h3⟩, d', s', h8, h6, by rw [h5.N, h.N]; omega, fun q hq => ?_, h10⟩
    rw [h5.ov]
    by_cases c : q = s.N
    · rw [c, upd_same]; exact hb
    · rw [upd_other _ _ c]
      rw [h5.N] at hq
      exact hall q (by omega)
end
end Go.Proofs.Ytecimlbdcldkdaa
