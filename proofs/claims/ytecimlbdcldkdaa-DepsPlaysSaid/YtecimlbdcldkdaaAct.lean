/- An act of a script that puts a job in. -/
import Derived.Test.YtecimlbdcldkdaaOkg
import Derived.Test.YtecimlbdcldkdaaRowA
namespace Go.Proofs.Ytecimlbdcldkdaa
open Go.RowKit Go.Maps Dep

/-- what an Add of a script does -/
def ActSaid (base : Nat) (d : GD) (s : GS) (x : Int) (n : Nat) (e : Nat → Int) (w : World) (b : Bool) (er : Int) (w' : World) : Prop :=
  ((er == 0) = false ∧ b = false ∧ w' = w ∧ ((x < 1 ∧ er = 1) ∨ (1 ≤ x ∧ (∃ i, i < s.N ∧ (s.id i : Int) = x) ∧ er = 51) ∨ (1 ≤ x ∧ (¬ ∃ i, i < s.N ∧ (s.id i : Int) = x) ∧ (∃ j, j < n ∧ ¬ ∃ i, i < s.N ∧ (s.id i : Int) = e j) ∧ er = 90))) ∨
  (er = 0 ∧ 1 ≤ x ∧ (¬ ∃ i, i < s.N ∧ (s.id i : Int) = x) ∧ (∀ j, j < n → ∃ i, i < s.N ∧ (s.id i : Int) = e j) ∧ ∃ (k : Nat) (d' : GD) (s' : GS), x = (k : Int) ∧ Added s s' k n e b ∧ Gm w' base d' s' ∧ Okg s' ∧ d'.G = d.G ∧ Below base w w')
theorem IntsIn.lt {w : World} {A : Option Addr} {n : Nat} {e : Nat → Int} (h : IntsIn w A n e) (hn : 0 < n) : ∃ g o, A = some ⟨g, o, none⟩ ∧ g < w.heap.size ∧ ∀ j, j < n → w.cell? ⟨g, o + j, none⟩ = some (.int .i64 (e j)) := by
  obtain ⟨g, o, hA, hc⟩ := h.2.1 hn
  exact ⟨g, o, hA, World.block_lt_of_cell? w ⟨g, o + 0, none⟩ (hc 0 hn), hc⟩
/-- rows that were handed over are no part of a graph that was made later -/
theorem IntsIn.out {w wr : World} {base : Nat} {d : GD} {s : GS} (hG : Gm wr base d s) (hB : Below w.heap.size w wr) (hwb : w.heap.size ≤ base) {A : Option Addr} {n : Nat} {e : Nat → Int} (h : IntsIn w A n e) (hn : n ≤ 1000) : NumsOut wr d s A n e :=
  ⟨hn, h.2.2, fun h0 => by
    obtain ⟨g, o, hA, hlt, hc⟩ := h.lt h0
    refine ⟨g, o, hA, fun hf => by have := (hG.foot_lt g hf).1; omega, fun j hj => ?_⟩
    exact (World.cell?_of_block (hB.block g hlt)).trans (hc j hj)⟩
theorem act_add {w wr : World} {base : Nat} {d : GD} {s : GS} (hG : Gm wr base d s) (hO : Okg s) (hN : s.N ≤ 900) (hb0 : base ≤ wr.heap.size) (x : Int) (hx : In64 x) (A : Option Addr) (n c : Nat) (e : Nat → Int) (hA : NumsOut wr d s A n e) (hw : wr.heap = w.heap) :
    Calls Try.prog 20 #[.pointer (some ⟨d.G, 0, none⟩), .int .i64 x, .slice A n c] w fun r w' => ∃ b er, r = .returned (.tuple #[.bool b, .int .i64 er]) ∧ ActSaid base d s x n e w b er w' := by
  have hA' : NumsOut w d s A n e := ⟨hA.1, hA.2.1, fun h0 => by
    obtain ⟨g, o, h1, h2, h3⟩ := hA.2.2 h0
    exact ⟨g, o, h1, h2, fun j hj => (World.cell?_of_block (by show w.heap[g]? = wr.heap[g]?; rw [hw])).trans (h3 j hj)⟩⟩
  refine (add_any (hG.heap hw.symm) (by omega) (fun i hi => by have := hO.blen hi; omega) (by rw [← hw]; exact hb0) x hx A n c e hA').mono fun r w' hs => ?_
  rcases hs with ⟨h1, ⟨h2, h3⟩ | ⟨h2, h3, h4⟩ | ⟨h2, h3, h4, h5⟩⟩ | ⟨h1, h2, h3, k, b, d', s', e1, e2, e3, e4, e5, _, e7⟩
  · exact ⟨false, 1, h3, Or.inl ⟨rfl, rfl, h1, Or.inl ⟨h2, rfl⟩⟩⟩
  · exact ⟨false, 51, h4, Or.inl ⟨rfl, rfl, h1, Or.inr (Or.inl ⟨h2, h3, rfl⟩)⟩⟩
  · exact ⟨false, 90, h5, Or.inl ⟨rfl, rfl, h1, Or.inr (Or.inr ⟨h2, h3, h4, rfl⟩)⟩⟩
  · refine ⟨b, 0, e2, Or.inr ⟨rfl, h1, h2, h3, k, d', s', e1, e4, e3, hO.add e4 (fun ⟨i, hi, hk⟩ => h2 ⟨i, hi, by rw [hk, e1]⟩), e5, e7.toBelow (Below.refl _ _) (by rw [← hw]; exact hb0) fun b hb => (hG.foot_lt b hb).1⟩⟩
/-- a graph, all of whose jobs are open -/
structure Fresh0 (W : World) (base G n : Nat) (d : GD) (s : GS) : Prop where
  gm : Gm W base d s
  ok : Okg s
  g : d.G = G
  N : s.N = n
  ov : ∀ k, k < n → s.ov k = false
theorem Fresh0.alike {W W' : World} {base G n : Nat} {d : GD} {s : GS} (h : Fresh0 W base G n d s) (hh : W'.heap = W.heap) : Fresh0 W' base G n d s := ⟨h.gm.heap hh, h.ok, h.g, h.N, h.ov⟩
theorem Fresh0.add {W W' : World} {base G n : Nat} {d d' : GD} {s s' : GS} (h : Fresh0 W base G n d s) {k m : Nat} {e : Nat → Int} {b : Bool} (ha : Added s s' k m e b) (hG : Gm W' base d' s') (hO : Okg s') (hg : d'.G = d.G) : Fresh0 W' base G (n + 1) d' s' := by
  have hb : b = false := by
    cases b with
    | false => rfl
    | true =>
      obtain ⟨j, _, i, hi, _, ho, _⟩ := ha.bad.1 rfl
      rw [h.N] at hi
      rw [h.ov i hi] at ho
      cases ho
  refine ⟨hG, hO, hg.trans h.g, by rw [ha.N, h.N], fun q hq => ?_⟩
  rw [ha.ov, hb]
  by_cases c : q = s.N
  · rw [c, upd_same]
  · rw [upd_other _ _ c]
    have := h.N
    exact h.ov q (by omega)
end Go.Proofs.Ytecimlbdcldkdaa
