/- A row of rows of numbers that grows by append. -/
import Derived.Test.YtecimlbdcldkdaaPut
namespace Go.Proofs.Ytecimlbdcldkdaa
open Go.RowKit Dep

/-- a row of slices, not below base -/
def FS (w : World) (base : Nat) (v : Value) (l : List Value) : Prop :=
  (∀ u ∈ l, u.oneCell' = true) ∧ ((v = .slice none 0 0 ∧ l = []) ∨ ∃ g o cap cs, v = .slice (some ⟨g, o, none⟩) l.length cap ∧ base ≤ g ∧ Bk w g 25 cs ∧ l.length ≤ cap ∧ o + cap ≤ cs.size ∧ cs.size ≤ 9223372036854775807 ∧ ∀ (j : Nat) (x : Value), l[j]? = some x → cs[o + j]? = some x)
theorem FS.nil (w : World) (base : Nat) : FS w base (.slice none 0 0) [] := ⟨fun u hu => (by cases hu), Or.inl ⟨rfl, rfl⟩⟩
theorem FS.keep {w w' : World} {base : Nat} {v : Value} {l : List Value} (h : FS w base v l) (hb : ∀ g, v.ownBlock = some g → g < w.heap.size → w'.heap[g]? = w.heap[g]?) : FS w' base v l := by
  rcases h with ⟨h0, h | ⟨g, o, cap, cs, rfl, h1, h2, h3⟩⟩
  · exact ⟨h0, Or.inl h⟩
  · exact ⟨h0, Or.inr ⟨g, o, cap, cs, rfl, h1, (hb g rfl h2.lt).trans h2, h3⟩⟩
theorem FS.lt {w : World} {base : Nat} {v : Value} {l : List Value} (h : FS w base v l) : ∀ g, v.ownBlock = some g → base ≤ g ∧ g < w.heap.size := by
  intro g hg
  rcases h with ⟨h0, ⟨rfl, _⟩ | ⟨g', o, cap, cs, rfl, h1, h2, _⟩⟩
  · simp [Value.ownBlock] at hg
  · simp [Value.ownBlock] at hg
    subst hg
    exact ⟨h1, h2.lt⟩
theorem FS.mono {w : World} {b b' : Nat} {v : Value} {l : List Value} (h : FS w b v l) (hb : b' ≤ b) : FS w b' v l := by
  rcases h with ⟨h0, h | ⟨g, o, cap, cs, h1, h2, h3⟩⟩
  · exact ⟨h0, Or.inl h⟩
  · exact ⟨h0, Or.inr ⟨g, o, cap, cs, h1, Nat.le_trans hb h2, h3⟩⟩
theorem FS.fresh {w w' : World} {v r : Value} {l : List Value} (h : FS w' w.heap.size r l) : Fresh w v r := fun g hg => Or.inr (h.lt g hg).1
theorem FS.pass {w w' : World} {base : Nat} {v : Value} {l : List Value} (h : FS w base v l) (hb : Below w.heap.size w w') : FS w' base v l := h.keep fun g _ hl => hb.block g hl
theorem FS.form {w : World} {base : Nat} {v : Value} {l : List Value} (h : FS w base v l) : ∃ A cap, v = .slice A l.length cap := by
  rcases h with ⟨_, ⟨rfl, rfl⟩ | ⟨g, o, cap, cs, rfl, _⟩⟩
  · exact ⟨none, 0, rfl⟩
  · exact ⟨_, _, rfl⟩
theorem FS.len {w : World} {base : Nat} {A : Option Addr} {m cap : Nat} {l : List Value} (h : FS w base (.slice A m cap) l) : m = l.length := by
  obtain ⟨A', cap', e⟩ := h.form
  simp only [Value.slice.injEq] at e
  exact e.2.1
theorem FS.cellAt {w : World} {base : Nat} {A : Option Addr} {m cap : Nat} {l : List Value} (h : FS w base (.slice A m cap) l) {j : Nat} {x : Value} (hx : l[j]? = some x) : ∃ g o, A = some ⟨g, o, none⟩ ∧ w.cell? ⟨g, o + j, none⟩ = some x := by
  rcases h with ⟨_, ⟨_, rfl⟩ | ⟨g, o, cap', cs, e, h1, h2, h3, h4, h5, h6⟩⟩
  · cases hx
  · simp only [Value.slice.injEq] at e
    exact ⟨g, o, e.1, h2.cell (h6 j x hx)⟩
/-- a row of numbers and a row of slices lie in two blocks -/
theorem Bk.apart {w : World} {g g' : Nat} {t t' : TypeId} {cs cs' : Array Value} (h : Bk w g t cs) (h' : Bk w g' t' cs') (ht : t ≠ t') : g ≠ g' := by
  rintro rfl
  unfold Bk at h h'
  rw [h] at h'
  simp only [Option.some.injEq, Obj.cells.injEq] at h'
  exact ht h'.2.1
theorem FR.apart {w : World} {b b' : Nat} {v v' : Value} {l : List Nat} {l' : List Value} (h : FR w b v l) (h' : FS w b' v' l') : ∀ g, v.ownBlock = some g → v'.ownBlock ≠ some g := by
  intro g hg hg'
  rcases h with ⟨rfl, _⟩ | ⟨g1, o, cap, cs, rfl, h1, h2, _⟩
  · simp [Value.ownBlock] at hg
  · rcases h' with ⟨_, ⟨rfl, _⟩ | ⟨g2, o2, cap2, cs2, rfl, k1, k2, _⟩⟩
    · simp [Value.ownBlock] at hg'
    · simp [Value.ownBlock] at hg hg'
      subst hg hg'
      exact h2.apart k2 (by decide) rfl
theorem FS.of_own {w : World} {base : Nat} {v : Value} {l : List Value} (h1 : ∀ u ∈ l, u.oneCell' = true) (h : w.ownsRow base 25 1 v l.length l) : FS w base v l := by
  refine ⟨h1, ?_⟩
  rcases h.2 with ⟨rfl, h0⟩ | ⟨g, cap, cur, rfl, hb, hg, hn, hm, hs, ht⟩
  · exact Or.inl ⟨rfl, List.eq_nil_of_length_eq_zero h0⟩
  · refine Or.inr ⟨g, 0, cap, cur, rfl, hb, hg, hn, by omega, by unfold maxLen at hm; omega, fun j x hx => ?_⟩
    rw [← ht, List.getElem?_take] at hx
    split at hx
    · rw [Nat.zero_add, ← Array.getElem?_toList]; exact hx
    · cases hx
/-- append(s, r) -/
theorem FS.append_run {w : World} {base : Nat} {v : Value} {l : List Value} (h : FS w base v l) (hl : l.length ≤ 1000000) (gx : Nat) {x : Value} (hx1 : x.oneCell' = true) (hx : w.cell? ⟨gx, 0, none⟩ = some x) (hb : base ≤ w.heap.size) :
    ∃ r w', (Builtin.append_ #[22, 22] 22 #[v, .slice (some ⟨gx, 0, none⟩) 1 1]).run Try.prog w = .ok r w' ∧ FS w' base r (l ++ [x]) ∧ w.grownBy w' v.ownBlock ∧ Fresh w v r := by
  obtain ⟨i, hi, hz, hs1, hby⟩ := info_parts infoInts
  have hnews : ∀ j u, ([x] : List Value)[j]? = some u → w.cell? ((⟨gx, 0, none⟩ : Addr).add j) = some u := by
    intro j u hj
    match j, hj with
    | 0, hj =>
      simp at hj
      subst hj
      simpa [Addr.add] using hx
  have hone : ∀ u ∈ [x], u.oneCell' = true := fun u hu => by simp at hu; rw [hu]; exact hx1
  have hall : ∀ u ∈ l ++ [x], u.oneCell' = true := fun u hu => by
    rcases List.mem_append.1 hu with h' | h'
    · exact h.1 u h'
    · exact hone u h'
  rcases h with ⟨h0, ⟨rfl, rfl⟩ | ⟨g, o, cap, cs, rfl, h1, h2, h3, h4, h5, h6⟩⟩
  · obtain ⟨v', w', hr, ho, hg, _⟩ := run_append_own (P := Try.prog) w w.heap.size 22 22 25 i _ 1 24 Try.underlying22 hi hz hs1 hby rfl (by decide) _ 0 [] (World.ownsRow_nil w w.heap.size _ 1) ⟨gx, 0, none⟩ 1 1 [x] rfl hnews hone (by unfold maxLen; omega) (by omega) (Nat.le_refl _)
    have ho' : FS w' w.heap.size v' [x] := FS.of_own hone (by simpa using ho)
    exact ⟨v', w', hr, ho'.mono hb, hg, ho'.fresh⟩
  · by_cases hroom : l.length + 1 ≤ cap
    · have hr := run_append_room_cells (P := Try.prog) w 22 (ty := 22) 25 i Try.underlying22 hi g o l.length cap ⟨gx, 0, none⟩ 1 1 [x] (by rw [hs1]; rfl) hnews hone hroom
        (fun j hj => by
          obtain rfl : j = 0 := by simp at hj; omega
          rw [hs1, Nat.mul_one, Nat.add_zero, h2.cell (Array.getElem?_eq_getElem (show o + l.length < cs.size by omega))]
          rfl)
        (fun j hj => h2.free _)
      refine ⟨_, _, hr, ?_, ?_, fun g' hg' => Or.inl hg'⟩
      · rw [hs1, Nat.mul_one]
        show FS (w.setCells g (o + l.length) [x]) base _ _
        rw [setCells_one]
        refine ⟨hall, Or.inr ⟨g, o, cap, _, by simp, h1, h2.set _ _, by simp; omega, by simp; omega, by simpa using h5, fun j y hy => ?_⟩⟩
        rw [Array.getElem?_setIfInBounds]
        by_cases e : j < l.length
        · rw [if_neg (by omega)]
          rw [List.getElem?_append_left e] at hy
          exact h6 j y hy
        · have hj : j = l.length := by
            rcases Nat.lt_or_ge j (l ++ [x]).length with h | h
            · simp at h; omega
            · rw [List.getElem?_eq_none h] at hy; cases hy
          subst hj
          rw [if_pos rfl, if_pos (by omega)]
          simpa using hy
      · rw [hs1, Nat.mul_one]
        show w.grownBy (w.setCells g (o + l.length) [x]) _
        rw [setCells_one]
        exact ⟨rfl, rfl, rfl, by simp, fun b _ hne => Below.heap_setCell w _ _ b (fun e => hne (by rw [e]; rfl))⟩
    · obtain ⟨v', w', hr, ho, hg⟩ := run_append_arg_grows (P := Try.prog) w 22 22 25 i _ 1 24 Try.underlying22 hi hz hs1 hby rfl (by decide) ⟨g, o, none⟩ l.length cap l (by omega)
        (fun j u hj => by
          rw [add_at]
          exact h2.cell (h6 j u hj))
        ⟨gx, 0, none⟩ 1 1 [x] rfl hnews (by omega) (by unfold maxLen; omega) (by omega)
      have ho' : FS w' w.heap.size v' (l ++ [x]) := FS.of_own hall (by rw [List.length_append]; exact ho)
      exact ⟨v', w', hr, ho'.mono hb, ⟨hg.os, hg.tape, hg.output, hg.size, fun b hb' _ => hg.block b hb' (by simp)⟩, ho'.fresh⟩
/-- append(s, r) in a walk -/
theorem wpList_fspush {W : World} {base : Nat} {l : List Value} {A : Option Addr} {m cap : Nat} (h : FS W base (.slice A m cap) l) {x : Value} (hx1 : x.oneCell' = true) (hl : m ≤ 1000000) (hb : base ≤ W.heap.size)
    {ops : Array Oper} {rest : List Oper} {o : Oper} {a : Act} {Q : Exit → Act → World → Prop} (hgd : o.guard = none) (s y : Operand)
    (ho : o.op = .call { callee := .builtin .append, args := #[s, y], argTypes := #[22, 22] }) (hty : o.type = 22)
    (hs : a.eval s = .slice A m cap) (hx : a.eval y = .slice (some ⟨W.heap.size, 0, none⟩) 1 1)
    (hk : ∀ A' cap' W', W.grownBy W' (Value.slice A m cap).ownBlock → FS W' base (.slice A' (m + 1) cap') (l ++ [x]) → Fresh W (.slice A m cap) (.slice A' (m + 1) cap') →
      wpList Try.prog ops Q rest (a.put o.dst (.slice A' (m + 1) cap')) W') :
    wpList Try.prog ops Q (o :: rest) a (W.alloc (.cells #[x] 25)) := by
  have hm : m = l.length := h.len
  have hF1 : FS (W.alloc (.cells #[x] 25)) base (.slice A m cap) l := h.keep fun g _ hl => Below.heap_alloc W _ g hl
  obtain ⟨r, W', hr, h1, h2, h3⟩ := hF1.append_run (by omega) W.heap.size hx1 ((Bk.new W 25 #[x]).cell (i := 0) rfl) (Nat.le_trans hb (by simp))
  obtain ⟨A', cap', e⟩ := h1.form
  rw [List.length_append, List.length_singleton, ← hm] at e
  subst e
  have hr' : (Builtin.append_ #[22, 22] o.type #[a.eval s, a.eval y]).run Try.prog (W.alloc (.cells #[x] 25)) = .ok (.slice A' (m + 1) cap') W' := by rw [hty, hs, hx]; exact hr
  refine wpList_append_run hgd s y _ _ ho _ hr' (hk A' cap' W' ?_ h1 (h3.older (by simp)))
  have g0 : W.grownBy (W.alloc (.cells #[x] 25)) (Value.slice A m cap).ownBlock := ⟨rfl, rfl, rfl, by simp, fun b hb _ => Below.heap_alloc W _ b hb⟩
  exact grown_trans g0 h2
end Go.Proofs.Ytecimlbdcldkdaa
