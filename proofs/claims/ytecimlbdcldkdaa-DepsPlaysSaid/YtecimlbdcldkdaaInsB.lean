/- A row of places: append, as an equation. -/
import Derived.Test.YtecimlbdcldkdaaIns
import Derived.ArgAppend
namespace Go.Proofs.Ytecimlbdcldkdaa
open Go.RowKit

def nums (l : List Nat) : List Value := l.map fun x : Nat => Value.int .i64 (x : Int)
theorem nums_get {l : List Nat} {j x : Nat} (h : l[j]? = some x) : (nums l)[j]? = some (.int .i64 (x : Int)) := by unfold nums; rw [List.getElem?_map, h]; rfl
theorem nums_at {l : List Nat} {j : Nat} {u : Value} (h : (nums l)[j]? = some u) : ∃ x, l[j]? = some x ∧ u = .int .i64 (x : Int) := by
  unfold nums at h
  rw [List.getElem?_map] at h
  cases hx : l[j]? with
  | none => rw [hx] at h; cases h
  | some x => rw [hx] at h; simp at h; exact ⟨x, rfl, h.symm⟩
theorem nums_length (l : List Nat) : (nums l).length = l.length := by unfold nums; simp
theorem one_cell {l : List Nat} : ∀ u ∈ nums l, u.oneCell' = true := by
  intro u hu
  unfold nums at hu
  rw [List.mem_map] at hu
  obtain ⟨x, _, rfl⟩ := hu
  rfl

theorem FR.of_own {w : World} {base : Nat} {v : Value} {l : List Nat} (h : w.ownsRow base 3 1 v l.length (nums l)) : FR w base v l := by
  rcases h.2 with ⟨rfl, h0⟩ | ⟨g, cap, cur, rfl, hb, hg, hn, hm, hs, ht⟩
  · exact Or.inl ⟨rfl, List.eq_nil_of_length_eq_zero h0⟩
  · refine Or.inr ⟨g, 0, cap, cur, rfl, hb, hg, hn, by omega, by unfold maxLen at hm; omega, fun j x hx => ?_⟩
    have h1 := nums_get hx
    rw [← ht, List.getElem?_take] at h1
    split at h1
    · rw [Nat.zero_add, ← Array.getElem?_toList]; exact h1
    · cases h1
theorem FR.size {w : World} {base : Nat} {v : Value} {l : List Nat} (h : FR w base v l) (hb : l ≠ []) : ∃ g o cap cs, v = .slice (some ⟨g, o, none⟩) l.length cap ∧ base ≤ g ∧ Bk w g 3 cs ∧ l.length ≤ cap ∧ o + cap ≤ cs.size ∧ cs.size ≤ 9223372036854775807 ∧ ∀ (j x : Nat), l[j]? = some x → cs[o + j]? = some (.int .i64 (x : Int)) := by
  rcases h with ⟨_, h⟩ | h
  · exact absurd h hb
  · exact h
theorem FR.keep {w w' : World} {base : Nat} {v : Value} {l : List Nat} (h : FR w base v l) (hb : ∀ g, v.ownBlock = some g → g < w.heap.size → w'.heap[g]? = w.heap[g]?) : FR w' base v l := by
  rcases h with h | ⟨g, o, cap, cs, rfl, h1, h2, h3⟩
  · exact Or.inl h
  · exact Or.inr ⟨g, o, cap, cs, rfl, h1, (hb g rfl h2.lt).trans h2, h3⟩
theorem FR.lt {w : World} {base : Nat} {v : Value} {l : List Nat} (h : FR w base v l) : ∀ g, v.ownBlock = some g → base ≤ g ∧ g < w.heap.size := by
  intro g hg
  rcases h with ⟨rfl, _⟩ | ⟨g', o, cap, cs, rfl, h1, h2, _⟩
  · simp [Value.ownBlock] at hg
  · simp [Value.ownBlock] at hg
    subst hg
    exact ⟨h1, h2.lt⟩

theorem setCells_one (w : World) (b o : Nat) (v : Value) : w.setCells b o [v] = w.setCell ⟨b, o, none⟩ v := by
  simp [World.setCells]

theorem FR.mono {w : World} {b b' : Nat} {v : Value} {l : List Nat} (h : FR w b v l) (hb : b' ≤ b) : FR w b' v l := by
  rcases h with h | ⟨g, o, cap, cs, h1, h2, h3⟩
  · exact Or.inl h
  · exact Or.inr ⟨g, o, cap, cs, h1, Nat.le_trans hb h2, h3⟩
/-- r's block is v's own, or a new one -/
def Fresh (w : World) (v r : Value) : Prop := ∀ g, r.ownBlock = some g → v.ownBlock = some g ∨ w.heap.size ≤ g
theorem FR.fresh {w w' : World} {v r : Value} {l : List Nat} (h : FR w' w.heap.size r l) : Fresh w v r := fun g hg => Or.inr (h.lt g hg).1

/-- append(s, k) -/
theorem FR.append_run {w : World} {base : Nat} {v : Value} {l : List Nat} (h : FR w base v l) (hl : l.length ≤ 1000000) (gx k : Nat) (hx : w.cell? ⟨gx, 0, none⟩ = some (.int .i64 (k : Int))) (hb : base ≤ w.heap.size) :
    ∃ r w', (Builtin.append_ #[25, 25] 25 #[v, .slice (some ⟨gx, 0, none⟩) 1 1]).run Try.prog w = .ok r w' ∧ FR w' base r (l ++ [k]) ∧ w.grownBy w' v.ownBlock ∧ Fresh w v r := by
  obtain ⟨i, hi, hz, hs1, hby⟩ := info_parts infoInt
  have hnews : ∀ j u, (nums [k])[j]? = some u → w.cell? ((⟨gx, 0, none⟩ : Addr).add j) = some u := by
    intro j u hj
    match j, hj with
    | 0, hj =>
      simp [nums] at hj
      subst hj
      simpa [Addr.add] using hx
  rcases h with ⟨rfl, rfl⟩ | ⟨g, o, cap, cs, rfl, h1, h2, h3, h4, h5, h6⟩
  · obtain ⟨v', w', hr, ho, hg, _⟩ := run_append_own (P := Try.prog) w w.heap.size 25 25 3 i _ 1 8 Try.underlying25 hi hz hs1 hby rfl (by decide) _ 0 [] (World.ownsRow_nil w w.heap.size _ 1) ⟨gx, 0, none⟩ 1 1 (nums [k]) rfl hnews one_cell (by unfold maxLen; omega) (by omega) (Nat.le_refl _)
    have ho' : FR w' w.heap.size v' [k] := FR.of_own (l := [k]) (by simpa using ho)
    exact ⟨v', w', hr, ho'.mono hb, hg, ho'.fresh⟩
  · by_cases hroom : l.length + 1 ≤ cap
    · have hr := run_append_room_cells (P := Try.prog) w 25 (ty := 25) 3 i Try.underlying25 hi g o l.length cap ⟨gx, 0, none⟩ 1 1 (nums [k]) (by rw [hs1]; rfl) hnews one_cell hroom
        (fun j hj => by
          obtain rfl : j = 0 := by simp [nums] at hj; omega
          rw [hs1, Nat.mul_one, Nat.add_zero, h2.cell (Array.getElem?_eq_getElem (show o + l.length < cs.size by omega))]
          rfl)
        (fun j hj => h2.free _)
      refine ⟨_, _, hr, ?_, ?_, fun g' hg' => Or.inl hg'⟩
      · rw [hs1, Nat.mul_one]
        show FR (w.setCells g (o + l.length) [.int .i64 (k : Int)]) base _ _
        rw [setCells_one]
        refine Or.inr ⟨g, o, cap, _, by simp, h1, h2.set _ _, by simp; omega, by simp; omega, by simpa using h5, fun j x hx => ?_⟩
        rw [Array.getElem?_setIfInBounds]
        by_cases e : j < l.length
        · rw [if_neg (by omega)]
          rw [List.getElem?_append_left e] at hx
          exact h6 j x hx
        · have hj : j = l.length := by
            rcases Nat.lt_or_ge j (l ++ [k]).length with h | h
            · simp at h; omega
            · rw [List.getElem?_eq_none h] at hx; cases hx
          subst hj
          rw [if_pos rfl, if_pos (by omega)]
          simp at hx
          rw [hx]
      · rw [hs1, Nat.mul_one]
        show w.grownBy (w.setCells g (o + l.length) [.int .i64 (k : Int)]) _
        rw [setCells_one]
        exact ⟨rfl, rfl, rfl, by simp, fun b _ hne => Below.heap_setCell w _ _ b (fun e => hne (by rw [e]; rfl))⟩
    · obtain ⟨v', w', hr, ho, hg⟩ := run_append_arg_grows (P := Try.prog) w 25 25 3 i _ 1 8 Try.underlying25 hi hz hs1 hby rfl (by decide) ⟨g, o, none⟩ l.length cap (nums l) (by rw [nums_length]; omega)
        (fun j u hj => by
          obtain ⟨x, hx1, rfl⟩ := nums_at hj
          have := h2.cell (h6 j x hx1)
          rw [show (⟨g, o, none⟩ : Addr).add j = ⟨g, o + j, none⟩ by unfold Addr.add; split <;> simp_all]
          exact this)
        ⟨gx, 0, none⟩ 1 1 (nums [k]) rfl hnews (by omega) (by unfold maxLen; omega) (by omega)
      have ho' : FR w' w.heap.size v' (l ++ [k]) := FR.of_own (l := l ++ [k]) (by
        have e : nums (l ++ [k]) = nums l ++ nums [k] := by simp [nums]
        rw [e, List.length_append]
        exact ho)
      exact ⟨v', w', hr, ho'.mono hb, ⟨hg.os, hg.tape, hg.output, hg.size, fun b hb' _ => hg.block b hb' (by simp)⟩, ho'.fresh⟩
end Go.Proofs.Ytecimlbdcldkdaa
