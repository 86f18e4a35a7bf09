/- Plain: the rows of what users have left, and the next turn. -/
import Derived.Test.YtnjgkgnjbmfpfaaUsm
namespace Go.Proofs.Ytnjgkgnjbmfpfaa
open Ot

theorem num_range (P : Par) (hw : ∀ i, P.wh i ≤ 9223372036854775807) (out : List Nat) (u : Str) : num P out u ≤ 9223372036854775807 ∧ den P out u ≤ 9223372036854775807 := by
  have hn := fun i => (now_range (P := P) out u i).2
  unfold most at hn
  have h := Shr.domN_range (Shr.four (now P out u 0) (now P out u 1) (now P out u 2) (now P out u 3)) (Shr.four (P.wh 0) (P.wh 1) (P.wh 2) (P.wh 3)) (by intro j; unfold Shr.four; split <;> exact Int.le_trans (hn _) (by omega)) (by intro j; unfold Shr.four; split <;> exact hw _) 4
  unfold num den Shr.dom
  omega

structure Lefts (P : Par) (out : List Nat) (ns : List Str) (ls : Str → List Nat) : Prop where
  up : ns.Pairwise (· < ·)
  mem : ∀ u, u ∈ ns ↔ ∃ i, i < P.n ∧ (P.js i).user = u
  row : ∀ u, u ∈ ns → (ls u).Pairwise (fun (x y : Nat) => prJ P.js (x : Int) (y : Int)) ∧ ∀ x, x ∈ ls u ↔ x < P.n ∧ (P.js x).user = u ∧ x ∉ out
def nN (P : Par) (out : List Nat) (ns : List Str) (j : Nat) : Int := num P out (ns.getD j [])
def dN (P : Par) (out : List Nat) (ns : List Str) (j : Nat) : Int := den P out (ns.getD j [])
def empt (ls : Str → List Nat) (ns : List Str) (j : Nat) : Bool := (ls (ns.getD j [])).isEmpty
theorem getD_str {l : List Str} {i : Nat} (h : i < l.length) : l.getD i [] = l[i] := by
  rw [List.getD_eq_getElem?_getD, List.getElem?_eq_getElem h]; rfl
section
variable {P : Par} {out : List Nat} {ns : List Str} {ls : Str → List Nat}
theorem Lefts.next (h : Lefts P out ns ls) {b : Nat} (hb : b < ns.length) (hp : ∀ j, j < ns.length → empt ls ns j = false → j = b ∨ Shr.prI (nN P out ns) (dN P out ns) b j) {x : Nat} {l : List Nat} (hx : ls (ns.getD b []) = x :: l) : Ot.Next P out x := by
  have hbm : ns.getD b [] ∈ ns := by rw [getD_str hb]; exact List.getElem_mem hb
  obtain ⟨hpw, hm⟩ := h.row _ hbm
  have hxm := (hm x).1 (by rw [hx]; simp)
  refine ⟨hxm.1, hxm.2.2, fun k hk hko hne => ?_⟩
  by_cases e : (P.js k).user = ns.getD b []
  · right
    refine ⟨hxm.2.1.trans e.symm, ?_⟩
    have hkm := (hm k).2 ⟨hk, e, hko⟩
    rw [hx] at hkm hpw
    rcases List.mem_cons.1 hkm with c | c
    · exact absurd c hne
    · exact (List.pairwise_cons.1 hpw).1 k c
  · left
    refine ⟨fun c => e (c.symm.trans hxm.2.1), ?_⟩
    obtain ⟨j, hj, ej⟩ := List.getElem_of_mem ((h.mem _).2 ⟨k, hk, rfl⟩)
    have hje : ns.getD j [] = (P.js k).user := by rw [getD_str hj]; exact ej
    have hjn : empt ls ns j = false := by
      have : k ∈ ls (ns.getD j []) := by rw [hje]; exact ((h.row _ ((h.mem _).2 ⟨k, hk, rfl⟩)).2 k).2 ⟨hk, rfl, hko⟩
      unfold empt
      cases c : ls (ns.getD j []) with
      | nil => rw [c] at this; cases this
      | cons a b => rfl
    have hjb : j ≠ b := fun c => e (by rw [← hje, c])
    rcases hp j hj hjn with c | c
    · exact absurd c hjb
    · unfold Shr.prI Shr.cmpI nN dN at c
      simp only [Int.toNat_natCast, hje] at c
      rw [hxm.2.1]
      rcases c with c | ⟨c, c2⟩
      · exact Or.inl c
      · right
        refine ⟨c, ?_⟩
        have := List.pairwise_iff_getElem.1 h.up b j hb hj (by omega)
        rw [getD_str hb, ← ej]
        exact this
theorem Lefts.step (h : Lefts P out ns ls) {u : Str} (hu : u ∈ ns) {x : Nat} {l : List Nat} (hx : ls u = x :: l) : Lefts P (out ++ [x]) ns (updS ls u l) := by
  obtain ⟨hpw, hm⟩ := h.row u hu
  have hxu := ((hm x).1 (by rw [hx]; simp)).2.1
  refine ⟨h.up, h.mem, fun v hv => ?_⟩
  by_cases e : v = u
  · subst e
    rw [updS_same]
    rw [hx] at hpw
    refine ⟨(List.pairwise_cons.1 hpw).2, fun y => ?_⟩
    have hy := hm y
    rw [hx, List.mem_cons] at hy
    rw [List.mem_append, List.mem_singleton]
    constructor
    · intro hyl
      obtain ⟨h1, h2, h3⟩ := hy.1 (Or.inr hyl)
      refine ⟨h1, h2, fun c => ?_⟩
      rcases c with c | c
      · exact h3 c
      · have := (List.pairwise_cons.1 hpw).1 y hyl
        rw [c] at this
        exact prJ_irr _ _ this
    · rintro ⟨h1, h2, h3⟩
      rcases hy.2 ⟨h1, h2, fun c => h3 (Or.inl c)⟩ with c | c
      · exact absurd (Or.inr c) h3
      · exact c
  · rw [updS_other _ _ e]
    obtain ⟨h1, h2⟩ := h.row v hv
    refine ⟨h1, fun y => ?_⟩
    rw [h2 y, List.mem_append, List.mem_singleton]
    constructor
    · rintro ⟨a, b, c⟩
      refine ⟨a, b, fun d => ?_⟩
      rcases d with d | d
      · exact c d
      · exact e (by rw [← b, d]; exact hxu)
    · rintro ⟨a, b, c⟩
      exact ⟨a, b, fun d => c (Or.inl d)⟩
theorem Lefts.some (h : Lefts P out ns ls) (hl : out.length < P.n) : ∃ j, j < ns.length ∧ empt ls ns j = false := by
  have : ∃ x, x < P.n ∧ x ∉ out := by
    apply Classical.byContradiction
    intro hn
    have := nodup_sub_len (l2 := out) (List.nodup_range (n := P.n)) fun x hx => Classical.byContradiction fun c => hn ⟨x, List.mem_range.1 hx, c⟩
    rw [List.length_range] at this
    omega
  obtain ⟨x, hx, hxo⟩ := this
  obtain ⟨j, hj, ej⟩ := List.getElem_of_mem ((h.mem _).2 ⟨x, hx, rfl⟩)
  refine ⟨j, hj, ?_⟩
  have hxm : x ∈ ls (ns.getD j []) := by rw [getD_str hj, ej]; exact ((h.row _ ((h.mem _).2 ⟨x, hx, rfl⟩)).2 x).2 ⟨hx, rfl, hxo⟩
  unfold empt
  cases c : ls (ns.getD j []) with
  | nil => rw [c] at hxm; cases hxm
  | cons a b => rfl
/-- what a round's choice comes to -/
theorem Lefts.pick (h : Lefts P out ns ls) (hl : out.length < P.n) : ∃ (b x : Nat) (l : List Nat), b < ns.length ∧ Shr.pickN (nN P out ns) (dN P out ns) (empt ls ns) ns.length = b ∧ ls (ns.getD b []) = x :: l ∧ Ot.Next P out x := by
  rcases Shr.pick_spec (nN P out ns) (dN P out ns) (empt ls ns) ns.length with ⟨_, h2⟩ | ⟨b, h1, h2, h3, h4⟩
  · obtain ⟨j, hj, e⟩ := h.some hl
    rw [h2 j hj] at e
    cases e
  · unfold empt at h3
    cases c : ls (ns.getD b []) with
    | nil => rw [c] at h3; cases h3
    | cons x l => exact ⟨b, x, l, h1, h2, c, h.next h1 h4 c⟩
end
theorem sorted_strict {ns ks : List Str} (hp : ns.Perm ks) (hn : ks.Nodup) (h : ns.Pairwise (fun x y => x ≤ y)) : ns.Pairwise (· < ·) := by
  have hnd : ns.Pairwise (· ≠ ·) := hp.nodup_iff.2 hn
  have hand := List.Pairwise.and h hnd
  refine hand.imp ?_
  rintro a b ⟨h1, h2⟩
  rcases List.le_iff_lt_or_eq.1 h1 with c | c
  · exact c
  · exact absurd c h2
end Go.Proofs.Ytnjgkgnjbmfpfaa
