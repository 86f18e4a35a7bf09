/- The walk of order.sorted: the names of a map, in order. -/
import Derived.Test.YtnjgkgnjbmfpfaaMapS
import Derived.Test.YtnjgkgnjbmfpfaaShf
import Derived.Test.YtnjgkgnjbmfpfaaFr
namespace Go.Proofs.Ytnjgkgnjbmfpfaa
open Go.RowKit Go.Maps Go.Sort Go.Shelf

/-- a row of strings in a block of its own -/
def SR (w : World) (base : Nat) (v : Value) (ns : List Str) : Prop :=
  (v = .slice none 0 0 ∧ ns = []) ∨ ∃ g cap cs, v = .slice (some ⟨g, 0, none⟩) ns.length cap ∧ base ≤ g ∧ Bk w g 9 cs ∧ ∀ (j : Nat) (x : Str), ns[j]? = some x → cs[j]? = some (encStr x)
theorem SR.keep {w w' : World} {base : Nat} {v : Value} {ns : List Str} (h : SR w base v ns) (hb : ∀ g, v.ownBlock = some g → g < w.heap.size → w'.heap[g]? = w.heap[g]?) : SR w' base v ns := by
  rcases h with h | ⟨g, cap, cs, rfl, h1, h2, h3⟩
  · exact Or.inl h
  · exact Or.inr ⟨g, cap, cs, rfl, h1, (hb g rfl h2.lt).trans h2, h3⟩
theorem SR.lt {w : World} {base : Nat} {v : Value} {ns : List Str} (h : SR w base v ns) : ∀ g, v.ownBlock = some g → base ≤ g ∧ g < w.heap.size := by
  intro g hg
  rcases h with ⟨rfl, _⟩ | ⟨g', cap, cs, rfl, h1, h2, _⟩
  · simp [Value.ownBlock] at hg
  · simp [Value.ownBlock] at hg
    subst hg
    exact ⟨h1, h2.lt⟩
theorem SR.form {w : World} {base : Nat} {v : Value} {ns : List Str} (h : SR w base v ns) : ∃ A cap, v = .slice A ns.length cap := by
  rcases h with ⟨rfl, rfl⟩ | ⟨g, cap, cs, rfl, _⟩
  · exact ⟨none, 0, rfl⟩
  · exact ⟨_, _, rfl⟩
theorem SR.cellAt {w : World} {base : Nat} {A : Option Addr} {m cap : Nat} {ns : List Str} (h : SR w base (.slice A m cap) ns) {j : Nat} {x : Str} (hx : ns[j]? = some x) : ∃ g, A = some ⟨g, 0, none⟩ ∧ w.cell? ⟨g, j, none⟩ = some (encStr x) := by
  rcases h with ⟨_, rfl⟩ | ⟨g, cap', cs, e, h1, h2, h3⟩
  · cases hx
  · simp only [Value.slice.injEq] at e
    exact ⟨g, e.1, h2.cell (h3 j x hx)⟩
theorem SR.of_own {w : World} {base : Nat} {v : Value} {ns : List Str} (h : w.ownsRow base 9 1 v ns.length (ns.map encStr)) : SR w base v ns := by
  rcases h.2 with ⟨rfl, h0⟩ | ⟨g, cap, cur, rfl, hb, hg, hn, hm, hs, ht⟩
  · exact Or.inl ⟨rfl, List.eq_nil_of_length_eq_zero h0⟩
  · refine Or.inr ⟨g, cap, cur, rfl, hb, hg, fun j x hx => ?_⟩
    have h1 : (ns.map encStr)[j]? = some (encStr x) := by rw [List.getElem?_map, hx]; rfl
    rw [← ht, List.getElem?_take] at h1
    split at h1
    · rw [← Array.getElem?_toList]; exact h1
    · cases h1

set_option maxHeartbeats 1000000 in
theorem sorted_any {w : World} {b : Nat} {ks : List Str} {f : Str → Value} (h : MapS w b ks f) (hk : ks.length ≤ 1000) :
    Calls Try.prog 46 #[.map (some b)] w fun e w' => ∃ A m c ns, e = .returned (.slice A m c) ∧ SR w' w.heap.size (.slice A m c) ns ∧ m = ns.length ∧ ns.Perm ks ∧ ns.Pairwise (fun x y => x ≤ y) ∧ Below w.heap.size w w' := by
  obtain ⟨D, h1, h2, h3⟩ := h.keys
  refine (callsIn_wide (n := 6)).1 ?_
  have hfK : Fence.wide.fn 53 := trivial
  have hfS : Fence.wide.fn 52 := trivial
  refine callsIn_of_wp Try.func46 rfl trivial ?_ rfl
  simp only [Try.ntmps46, List.size_toArray, List.length_cons, List.length_nil, Nat.reduceAdd, Nat.reduceSub, Array.replicate_succ, Array.replicate_zero, List.push_toArray, List.append_toArray, List.nil_append, List.cons_append]
  gi_wp2_with (first
    | (gi_at_call 53; refine (Try.maps_Keys_53 _ _).mono ?_; rintro e w' ⟨rfl, rfl⟩)
    | (gi_at_call 52; refine (Try.slices_Sorted_keys_52_53 b _ D RA w h1 (by unfold maxLen; omega) (by omega)).mono ?_; rintro e w' ⟨v, ss, rfl, hS, hrow, hnil, hb⟩))
  go_ret
  have hperm : (ss.mergeSort leB).Perm ks := (List.mergeSort_perm ss leB).trans (hS.trans h3.symm)
  have hrow' : w'.ownsRow w.heap.size 9 1 v (ss.mergeSort leB).length ((ss.mergeSort leB).map encStr) := by
    rw [List.length_mergeSort]
    exact ownsRow_base_a hrow (by simp)
  have hs := SR.of_own hrow'
  obtain ⟨A, c, rfl⟩ := hs.form
  refine ⟨A, _, c, ss.mergeSort leB, rfl, hs, rfl, hperm, ?_, ((Below.refl _ w).alloc (Nat.le_refl _) _).trans (hb.mono (by simp))⟩
  have tr : ∀ a b c : List UInt8, leB a b = true → leB b c = true → leB a c = true := fun a b c h1 h2 => by simp only [leB, decide_eq_true_eq] at *; exact List.le_trans h1 h2
  have tot : ∀ a b : List UInt8, (leB a b || leB b a) = true := fun a b => by simp only [leB, Bool.or_eq_true, decide_eq_true_eq]; exact List.le_total a b
  exact (List.pairwise_mergeSort tr tot ss).imp fun h => by simpa [leB] using h
end Go.Proofs.Ytnjgkgnjbmfpfaa
