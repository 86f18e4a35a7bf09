/- An act that puts a job in, with all that stays; and a graph of which some are over. -/
import Derived.Test.YtecimlbdcldkdaaAct
import Derived.Test.YtecimlbdcldkdaaEndP
namespace Go.Proofs.Ytecimlbdcldkdaa
open Go.RowKit Go.Maps Dep

/-- what an Add does, with all that stays -/
def ActSaidB (base : Nat) (d : GD) (s : GS) (x : Int) (n : Nat) (e : Nat → Int) (w : World) (b : Bool) (er : Int) (w' : World) : Prop :=
  ((er == 0) = false ∧ b = false ∧ w' = w ∧ ((x < 1 ∧ er = 1) ∨ (1 ≤ x ∧ (∃ i, i < s.N ∧ (s.id i : Int) = x) ∧ er = 51) ∨ (1 ≤ x ∧ (¬ ∃ i, i < s.N ∧ (s.id i : Int) = x) ∧ (∃ j, j < n ∧ ¬ ∃ i, i < s.N ∧ (s.id i : Int) = e j) ∧ er = 90))) ∨
  (er = 0 ∧ 1 ≤ x ∧ (¬ ∃ i, i < s.N ∧ (s.id i : Int) = x) ∧ (∀ j, j < n → ∃ i, i < s.N ∧ (s.id i : Int) = e j) ∧ ∃ (k : Nat) (d' : GD) (s' : GS), x = (k : Int) ∧ Added s s' k n e b ∧ Gm w' base d' s' ∧ Okg s' ∧ d'.G = d.G ∧ (∀ g, Foot d' s' g → Foot d s g ∨ w.heap.size ≤ g) ∧ Eff w w' (Foot d s))
theorem act_addB {w wr : World} {base : Nat} {d : GD} {s : GS} (hG : Gm wr base d s) (hO : Okg s) (hN : s.N ≤ 900) (hb0 : base ≤ wr.heap.size) (x : Int) (hx : In64 x) (A : Option Addr) (n c : Nat) (e : Nat → Int) (hA : NumsOut wr d s A n e) (hw : wr.heap = w.heap) :
    Calls Try.prog 20 #[.pointer (some ⟨d.G, 0, none⟩), .int .i64 x, .slice A n c] w fun r w' => ∃ b er, r = .returned (.tuple #[.bool b, .int .i64 er]) ∧ ActSaidB base d s x n e w b er w' := by
  have hA' : NumsOut w d s A n e := ⟨hA.1, hA.2.1, fun h0 => by
    obtain ⟨g, o, h1, h2, h3⟩ := hA.2.2 h0
    exact ⟨g, o, h1, h2, fun j hj => (World.cell?_of_block (by show w.heap[g]? = wr.heap[g]?; rw [hw])).trans (h3 j hj)⟩⟩
  refine (add_any (hG.heap hw.symm) (by omega) (fun i hi => by have := hO.blen hi; omega) (by rw [← hw]; exact hb0) x hx A n c e hA').mono fun r w' hs => ?_
  rcases hs with ⟨h1, ⟨h2, h3⟩ | ⟨h2, h3, h4⟩ | ⟨h2, h3, h4, h5⟩⟩ | ⟨h1, h2, h3, k, b, d', s', e1, e2, e3, e4, e5, e6, e7⟩
  · exact ⟨false, 1, h3, Or.inl ⟨rfl, rfl, h1, Or.inl ⟨h2, rfl⟩⟩⟩
  · exact ⟨false, 51, h4, Or.inl ⟨rfl, rfl, h1, Or.inr (Or.inl ⟨h2, h3, rfl⟩)⟩⟩
  · exact ⟨false, 90, h5, Or.inl ⟨rfl, rfl, h1, Or.inr (Or.inr ⟨h2, h3, h4, rfl⟩)⟩⟩
  · exact ⟨b, 0, e2, Or.inr ⟨rfl, h1, h2, h3, k, d', s', e1, e4, e3, hO.add e4 (fun ⟨i, hi, hk⟩ => h2 ⟨i, hi, by rw [hk, e1]⟩), e5, e6, e7⟩⟩
theorem ActSaidB.kept {base : Nat} {d : GD} {s : GS} {x : Int} {n : Nat} {e : Nat → Int} {w w' : World} {b : Bool} {er : Int} (h : ActSaidB base d s x n e w b er w') {g : Nat} (hg : g < w.heap.size) (hf : ¬ Foot d s g) : w'.heap[g]? = w.heap[g]? := by
  rcases h with ⟨_, _, rfl, _⟩ | ⟨_, _, _, _, _, _, _, _, _, _, _, _, _, hE⟩
  · rfl
  · exact hE.block g hg hf

/-- a graph, of which just those of D are over: EndAt for some M -/
theorem EndAt.mk' {s : GS} (h : Okg s) {D : List Nat} (hn : D.Nodup) (hD : ∀ y, y ∈ D ↔ ∃ k, k < s.N ∧ s.id k = y ∧ s.ov k = true) : ∃ M, EndAt s M D := by
  refine ⟨((List.range s.N).filter fun k => s.ov k || (s.ws k).isEmpty).map s.id, h, ?_, fun y => ?_, hn, hD⟩
  · unfold List.Nodup
    rw [List.pairwise_map]
    refine List.Pairwise.imp_of_mem ?_ ((List.nodup_range (n := s.N)).filter _)
    intro a b ha hb hne e
    exact hne (h.inj a b (List.mem_range.1 (List.mem_filter.1 ha).1) (List.mem_range.1 (List.mem_filter.1 hb).1) e)
  · rw [List.mem_map]
    constructor
    · rintro ⟨k, hk, e⟩
      obtain ⟨h1, h2⟩ := List.mem_filter.1 hk
      refine ⟨k, List.mem_range.1 h1, e, ?_⟩
      rw [Bool.or_eq_true] at h2
      rcases h2 with h2 | h2
      · exact Or.inl h2
      · exact Or.inr (List.isEmpty_iff.1 h2)
    · rintro ⟨k, hk, e, h2⟩
      refine ⟨k, List.mem_filter.2 ⟨List.mem_range.2 hk, ?_⟩, e⟩
      rw [Bool.or_eq_true]
      rcases h2 with h2 | h2
      · exact Or.inl h2
      · right; rw [h2]; rfl
end Go.Proofs.Ytecimlbdcldkdaa
