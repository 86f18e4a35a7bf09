/- A row of places in memory (it may begin inside its block, it may have room): what append and slicing do to it. -/
import Derived.Test.YtnjgkgnjbmfpfaaRows
import Derived.Test.YtnjgkgnjbmfpfaaMem
import Derived.Test.YtnjgkgnjbmfpfaaWk
import Derived.WalkKit
import Derived.WalkSpells
import Derived.WalkLawsBesides
import Derived.OwnWalk
import Derived.OneCell
import Derived.Laws.AppendOwn
import Derived.ArgAppend
import Derived.Deep.AppendSrc
import Derived.Lib.Hide
namespace Go.Proofs.Ytnjgkgnjbmfpfaa
open Go.RowKit

theorem infoIntF : (Try.prog.info? 3).map (fun i => (i.zero, i.size, i.bytes)) = some (some (.int .i64 0), 1, 8) := by kernel_rfl
/-- a row of places (it may begin inside its block, it may have room), not below base -/
def FR (w : World) (base : Nat) (v : Value) (l : List Nat) : Prop :=
  (v = .slice none 0 0 ∧ l = []) ∨ ∃ g o cap cs, v = .slice (some ⟨g, o, none⟩) l.length cap ∧ base ≤ g ∧ Bk w g 3 cs ∧ l.length ≤ cap ∧ o + cap ≤ cs.size ∧ cs.size ≤ 9223372036854775807 ∧ ∀ (j x : Nat), l[j]? = some x → cs[o + j]? = some (.int .i64 (x : Int))
section
variable {P : Program} {ops : Array Oper} {rest : List Oper} {o : Oper} {a : Act} {w w' : World} {Q : Exit → Act → World → Prop}
theorem wpList_append_run (hgd : o.guard = none) (s x : Operand) (t tx : TypeId) (ho : o.op = Op.call { callee := Callee.builtin Builtin.append, args := #[s, x], argTypes := #[t, tx] }) (r : Value)
    (hrun : (Builtin.append_ #[t, tx] o.type #[a.eval s, a.eval x]).run P w = .ok r w') (h : wpList P ops Q rest (a.put o.dst r) w') : wpList P ops Q (o :: rest) a w := by
  refine wpList_plain hgd fun K hK' => ?_
  unfold Oper.wp
  simp [execOp, ho, resolve, invoke, builtin, hrun, Result.andThen]
  exact hK' _ _ h
theorem wpList_copy_run (hgd : o.guard = none) (s x : Operand) (t tx : TypeId) (ho : o.op = Op.call { callee := Callee.builtin Builtin.copy, args := #[s, x], argTypes := #[t, tx] }) (r : Value)
    (hrun : (Builtin.copy_ #[t, tx] o.type #[a.eval s, a.eval x]).run P w = .ok r w') (h : wpList P ops Q rest (a.put o.dst r) w') : wpList P ops Q (o :: rest) a w := by
  refine wpList_plain hgd fun K hK' => ?_
  unfold Oper.wp
  simp [execOp, ho, resolve, invoke, builtin, hrun, Result.andThen]
  exact hK' _ _ h
theorem step_copy_run {K : Act → World → Prop} {E : Prop} (hgd : o.guard = none) (s x : Operand) (t tx : TypeId) (ho : o.op = Op.call { callee := Callee.builtin Builtin.copy, args := #[s, x], argTypes := #[t, tx] }) (r : Value)
    (hrun : (Builtin.copy_ #[t, tx] o.type #[a.eval s, a.eval x]).run P w = .ok r w') (h : K (a.put o.dst r) w') : if Region.wanted o (yielded ops a.tmps) = true then Oper.wp P o a w K Q else E := by
  have hw : Region.wanted o (yielded ops a.tmps) = true := by simp [Region.wanted, hgd]
  rw [if_pos hw]
  unfold Oper.wp
  simp [execOp, ho, resolve, invoke, builtin, hrun, Result.andThen]
  exact h
end
def nums (l : List Nat) : List Value := l.map fun x : Nat => Value.int .i64 (x : Int)
theorem nums_get {l : List Nat} {j x : Nat} (h : l[j]? = some x) : (nums l)[j]? = some (.int .i64 (x : Int)) := by unfold nums; rw [List.getElem?_map, h]; rfl
theorem nums_at {l : List Nat} {j : Nat} {u : Value} (h : (nums l)[j]? = some u) : ∃ x, l[j]? = some x ∧ u = .int .i64 (x : Int) := by
  unfold nums at h
  rw [List.getElem?_map] at h
  cases hx : l[j]? with
  | none => rw [hx] at h; cases h
  | some x => rw [hx] at h; simp at h; exact ⟨x, rfl, h.symm⟩
theorem nums_length (l : List Nat) : (nums l).length = l.length := by unfold nums; simp
theorem one_cell {l : List Nat} : ∀ u ∈ nums l, u.oneCell' = true := by
  intro u hu
  unfold nums at hu
  rw [List.mem_map] at hu
  obtain ⟨x, _, rfl⟩ := hu
  rfl

theorem FR.of_own {w : World} {base : Nat} {v : Value} {l : List Nat} (h : w.ownsRow base 3 1 v l.length (nums l)) : FR w base v l := by
  rcases h.2 with ⟨rfl, h0⟩ | ⟨g, cap, cur, rfl, hb, hg, hn, hm, hs, ht⟩
  · exact Or.inl ⟨rfl, List.eq_nil_of_length_eq_zero h0⟩
  · refine Or.inr ⟨g, 0, cap, cur, rfl, hb, hg, hn, by omega, by unfold maxLen at hm; omega, fun j x hx => ?_⟩
    have h1 := nums_get hx
    rw [← ht, List.getElem?_take] at h1
    split at h1
    · rw [Nat.zero_add, ← Array.getElem?_toList]; exact h1
    · cases h1
theorem FR.size {w : World} {base : Nat} {v : Value} {l : List Nat} (h : FR w base v l) (hb : l ≠ []) : ∃ g o cap cs, v = .slice (some ⟨g, o, none⟩) l.length cap ∧ base ≤ g ∧ Bk w g 3 cs ∧ l.length ≤ cap ∧ o + cap ≤ cs.size ∧ cs.size ≤ 9223372036854775807 ∧ ∀ (j x : Nat), l[j]? = some x → cs[o + j]? = some (.int .i64 (x : Int)) := by
  rcases h with ⟨_, h⟩ | h
  · exact absurd h hb
  · exact h
theorem FR.keep {w w' : World} {base : Nat} {v : Value} {l : List Nat} (h : FR w base v l) (hb : ∀ g, v.ownBlock = some g → g < w.heap.size → w'.heap[g]? = w.heap[g]?) : FR w' base v l := by
  rcases h with h | ⟨g, o, cap, cs, rfl, h1, h2, h3⟩
  · exact Or.inl h
  · exact Or.inr ⟨g, o, cap, cs, rfl, h1, (hb g rfl h2.lt).trans h2, h3⟩
theorem FR.lt {w : World} {base : Nat} {v : Value} {l : List Nat} (h : FR w base v l) : ∀ g, v.ownBlock = some g → base ≤ g ∧ g < w.heap.size := by
  intro g hg
  rcases h with ⟨rfl, _⟩ | ⟨g', o, cap, cs, rfl, h1, h2, _⟩
  · simp [Value.ownBlock] at hg
  · simp [Value.ownBlock] at hg
    subst hg
    exact ⟨h1, h2.lt⟩

theorem setCells_one (w : World) (b o : Nat) (v : Value) : w.setCells b o [v] = w.setCell ⟨b, o, none⟩ v := by
  simp [World.setCells]

theorem FR.mono {w : World} {b b' : Nat} {v : Value} {l : List Nat} (h : FR w b v l) (hb : b' ≤ b) : FR w b' v l := by
  rcases h with h | ⟨g, o, cap, cs, h1, h2, h3⟩
  · exact Or.inl h
  · exact Or.inr ⟨g, o, cap, cs, h1, Nat.le_trans hb h2, h3⟩
/-- r's block is v's own, or a new one -/
def Fresh (w : World) (v r : Value) : Prop := ∀ g, r.ownBlock = some g → v.ownBlock = some g ∨ w.heap.size ≤ g
theorem FR.fresh {w w' : World} {v r : Value} {l : List Nat} (h : FR w' w.heap.size r l) : Fresh w v r := fun g hg => Or.inr (h.lt g hg).1

/-- append(s, k) -/
theorem FR.append_run {w : World} {base : Nat} {v : Value} {l : List Nat} (h : FR w base v l) (hl : l.length ≤ 1000000) (gx k : Nat) (hx : w.cell? ⟨gx, 0, none⟩ = some (.int .i64 (k : Int))) (hb : base ≤ w.heap.size) :
    ∃ r w', (Builtin.append_ #[41, 41] 41 #[v, .slice (some ⟨gx, 0, none⟩) 1 1]).run Try.prog w = .ok r w' ∧ FR w' base r (l ++ [k]) ∧ w.grownBy w' v.ownBlock ∧ Fresh w v r := by
  obtain ⟨i, hi, hz, hs1, hby⟩ := info_parts infoIntF
  have hnews : ∀ j u, (nums [k])[j]? = some u → w.cell? ((⟨gx, 0, none⟩ : Addr).add j) = some u := by
    intro j u hj
    match j, hj with
    | 0, hj =>
      simp [nums] at hj
      subst hj
      simpa [Addr.add] using hx
  rcases h with ⟨rfl, rfl⟩ | ⟨g, o, cap, cs, rfl, h1, h2, h3, h4, h5, h6⟩
  · obtain ⟨v', w', hr, ho, hg, _⟩ := run_append_own (P := Try.prog) w w.heap.size 41 41 3 i _ 1 8 Try.underlying41 hi hz hs1 hby rfl (by decide) _ 0 [] (World.ownsRow_nil w w.heap.size _ 1) ⟨gx, 0, none⟩ 1 1 (nums [k]) rfl hnews one_cell (by unfold maxLen; omega) (by omega) (Nat.le_refl _)
    have ho' : FR w' w.heap.size v' [k] := FR.of_own (l := [k]) (by simpa using ho)
    exact ⟨v', w', hr, ho'.mono hb, hg, ho'.fresh⟩
  · by_cases hroom : l.length + 1 ≤ cap
    · have hr := run_append_room_cells (P := Try.prog) w 41 (ty := 41) 3 i Try.underlying41 hi g o l.length cap ⟨gx, 0, none⟩ 1 1 (nums [k]) (by rw [hs1]; rfl) hnews one_cell hroom
        (fun j hj => by
          obtain rfl : j = 0 := by simp [nums] at hj; omega
          rw [hs1, Nat.mul_one, Nat.add_zero, h2.cell (Array.getElem?_eq_getElem (show o + l.length < cs.size by omega))]
          rfl)
        (fun j hj => h2.free _)
      refine ⟨_, _, hr, ?_, ?_, fun g' hg' => Or.inl hg'⟩
      · rw [hs1, Nat.mul_one]
        show FR (w.setCells g (o + l.length) [.int .i64 (k : Int)]) base _ _
        rw [setCells_one]
        refine Or.inr ⟨g, o, cap, _, by simp, h1, h2.set _ _, by simp; omega, by simp; omega, by simpa using h5, fun j x hx => ?_⟩
        rw [Array.getElem?_setIfInBounds]
        by_cases e : j < l.length
        · rw [if_neg (by omega)]
          rw [List.getElem?_append_left e] at hx
          exact h6 j x hx
        · have hj : j = l.length := by
            rcases Nat.lt_or_ge j (l ++ [k]).length with h | h
            · simp at h; omega
            · rw [List.getElem?_eq_none h] at hx; cases hx
          subst hj
          rw [if_pos rfl, if_pos (by omega)]
          simp at hx
          rw [hx]
      · rw [hs1, Nat.mul_one]
        show w.grownBy (w.setCells g (o + l.length) [.int .i64 (k : Int)]) _
        rw [setCells_one]
        exact ⟨rfl, rfl, rfl, by simp, fun b _ hne => Below.heap_setCell w _ _ b (fun e => hne (by rw [e]; rfl))⟩
    · obtain ⟨v', w', hr, ho, hg⟩ := run_append_arg_grows (P := Try.prog) w 41 41 3 i _ 1 8 Try.underlying41 hi hz hs1 hby rfl (by decide) ⟨g, o, none⟩ l.length cap (nums l) (by rw [nums_length]; omega)
        (fun j u hj => by
          obtain ⟨x, hx1, rfl⟩ := nums_at hj
          have := h2.cell (h6 j x hx1)
          rw [show (⟨g, o, none⟩ : Addr).add j = ⟨g, o + j, none⟩ by unfold Addr.add; split <;> simp_all]
          exact this)
        ⟨gx, 0, none⟩ 1 1 (nums [k]) rfl hnews (by omega) (by unfold maxLen; omega) (by omega)
      have ho' : FR w' w.heap.size v' (l ++ [k]) := FR.of_own (l := l ++ [k]) (by
        have e : nums (l ++ [k]) = nums l ++ nums [k] := by simp [nums]
        rw [e, List.length_append]
        exact ho)
      exact ⟨v', w', hr, ho'.mono hb, ⟨hg.os, hg.tape, hg.output, hg.size, fun b hb' _ => hg.block b hb' (by simp)⟩, ho'.fresh⟩
theorem Bk.setCells {g : Nat} {t : TypeId} : ∀ (vs : List Value) (o : Nat) (w : World) (cs : Array Value), Bk w g t cs →
    ∃ cs', Bk (w.setCells g o vs) g t cs' ∧ cs'.size = cs.size ∧ ∀ j, cs'[j]? = if o ≤ j ∧ j < o + vs.length ∧ j < cs.size then vs[j - o]? else cs[j]?
  | [], o, w, cs, h => ⟨cs, h, rfl, fun j => by rw [if_neg (by simp; omega)]⟩
  | v :: r, o, w, cs, h => by
    obtain ⟨cs', h1, h2, h3⟩ := Bk.setCells r (o + 1) (w.setCell ⟨g, o, none⟩ v) _ (h.set o v)
    refine ⟨cs', h1, by simpa using h2, fun j => ?_⟩
    rw [h3 j]
    simp only [Array.size_setIfInBounds, List.length_cons]
    by_cases e : j = o
    · subst e
      rw [if_neg (by omega)]
      rw [Array.getElem?_setIfInBounds, if_pos rfl]
      by_cases l : j < cs.size
      · rw [if_pos l, if_pos (by omega)]; simp
      · rw [if_neg l, if_neg (by omega)]
        rw [Array.getElem?_eq_none (by omega)]
    · by_cases c : o + 1 ≤ j ∧ j < o + 1 + r.length ∧ j < cs.size
      · rw [if_pos c, if_pos (by omega)]
        rw [show j - o = (j - (o + 1)) + 1 by omega, List.getElem?_cons_succ]
      · rw [if_neg c, if_neg (by omega), Array.getElem?_setIfInBounds, if_neg (by omega)]
theorem setCells_grown (w : World) (g o : Nat) (vs : List Value) : w.grownBy (w.setCells g o vs) (some g) := by
  induction vs generalizing o w with
  | nil => exact World.grownBy.refl _ _
  | cons v r ih =>
    have h1 := ih (w.setCell ⟨g, o, none⟩ v) (o + 1)
    have h0 : w.grownBy (w.setCell ⟨g, o, none⟩ v) (some g) := ⟨rfl, rfl, rfl, by simp, fun b _ hne => Below.heap_setCell w _ _ b (fun e => hne (by rw [e]))⟩
    exact ⟨h1.os.trans h0.os, h1.tape.trans h0.tape, h1.output.trans h0.output, Nat.le_trans h0.size h1.size, fun b hb hne => (h1.block b (Nat.lt_of_lt_of_le hb h0.size) hne).trans (h0.block b hb hne)⟩
theorem add_atF (b off k : Nat) : (⟨b, off, none⟩ : Addr).add k = ⟨b, off + k, none⟩ := by
  unfold Addr.add
  by_cases h : k = 0
  · subst h; simp
  · simp [h]
theorem grown_trans {a b c : World} {row : Option Nat} (h : a.grownBy b row) (k : b.grownBy c row) : a.grownBy c row := ⟨k.os.trans h.os, k.tape.trans h.tape, k.output.trans h.output, Nat.le_trans h.size k.size, fun x hx hne => (k.block x (Nat.lt_of_lt_of_le hx h.size) hne).trans (h.block x hx hne)⟩
theorem FR.pass {w w' : World} {base : Nat} {v : Value} {l : List Nat} (h : FR w base v l) (hb : Below w.heap.size w w') : FR w' base v l := h.keep fun g _ hl => hb.block g hl
def upd {α : Type} (f : Nat → α) (i : Nat) (x : α) : Nat → α := fun k => if k = i then x else f k
theorem upd_same {α : Type} (f : Nat → α) (i : Nat) (x : α) : upd f i x i = x := by unfold upd; rw [if_pos rfl]
theorem upd_other {α : Type} (f : Nat → α) {i k : Nat} (x : α) (h : k ≠ i) : upd f i x k = f k := by unfold upd; rw [if_neg h]
/-- N rows, each in a block of its own, none below base -/
def Fam (w : World) (base N : Nat) (rows : Nat → Value) (ls : Nat → List Nat) : Prop :=
  (∀ k, k < N → FR w base (rows k) (ls k)) ∧ ∀ k, k < N → ∀ k', k' < N → k ≠ k' → ∀ g, (rows k).ownBlock = some g → (rows k').ownBlock ≠ some g
theorem grown_none {w w' : World} (h : w.grownBy w' none) (row : Option Nat) : w.grownBy w' row := ⟨h.os, h.tape, h.output, h.size, fun b hb _ => h.block b hb (by simp)⟩
theorem Fam.keep {w w' : World} {base N : Nat} {rows : Nat → Value} {ls : Nat → List Nat} (h : Fam w base N rows ls) (hb : ∀ g, base ≤ g → g < w.heap.size → w'.heap[g]? = w.heap[g]?) : Fam w' base N rows ls :=
  ⟨fun k hk => (h.1 k hk).keep fun g hg hl => hb g ((h.1 k hk).lt g hg).1 hl, h.2⟩
theorem FR.form {w : World} {base : Nat} {v : Value} {l : List Nat} (h : FR w base v l) : ∃ A cap, v = .slice A l.length cap := by
  rcases h with ⟨rfl, rfl⟩ | ⟨g, o, cap, cs, rfl, _⟩
  · exact ⟨none, 0, rfl⟩
  · exact ⟨_, _, rfl⟩
theorem Fresh.older {w w' : World} {v r : Value} (h : Fresh w' v r) (hs : w.heap.size ≤ w'.heap.size) : Fresh w v r := fun g hg => (h g hg).imp id fun c => Nat.le_trans hs c
/-- what a row's first cells hold -/
theorem FR.cellAt {w : World} {base : Nat} {A : Option Addr} {m cap : Nat} {l : List Nat} (h : FR w base (.slice A m cap) l) {j : Nat} {x : Nat} (hx : l[j]? = some x) : ∃ g o, A = some ⟨g, o, none⟩ ∧ w.cell? ⟨g, o + j, none⟩ = some (.int .i64 (x : Int)) := by
  rcases h with ⟨_, rfl⟩ | ⟨g, o, cap', cs, e, h1, h2, h3, h4, h5, h6⟩
  · cases hx
  · simp only [Value.slice.injEq] at e
    exact ⟨g, o, e.1, h2.cell (h6 j x hx)⟩
theorem FR.len {w : World} {base : Nat} {A : Option Addr} {m cap : Nat} {l : List Nat} (h : FR w base (.slice A m cap) l) : m = l.length := by
  obtain ⟨A', cap', e⟩ := h.form
  simp only [Value.slice.injEq] at e
  exact e.2.1
/-- s[1:] -/
theorem FR.tail {w : World} {base : Nat} {g o m cap x : Nat} {l : List Nat} (h : FR w base (.slice (some ⟨g, o, none⟩) m cap) (x :: l)) : 0 < cap ∧ FR w base (.slice (some (if cap = 1 then ⟨g, o, none⟩ else ⟨g, o + 1, none⟩)) (m - 1) (cap - 1)) l := by
  rcases h with ⟨_, h⟩ | ⟨g', o', cap', cs, e, h1, h2, h3, h4, h5, h6⟩
  · cases h
  · simp only [Value.slice.injEq, Option.some.injEq, Addr.mk.injEq] at e
    obtain ⟨⟨rfl, rfl, _⟩, rfl, rfl⟩ := e
    simp only [List.length_cons] at h3 ⊢
    refine ⟨by omega, ?_⟩
    by_cases hc : cap = 1
    · subst hc
      obtain rfl : l = [] := List.eq_nil_of_length_eq_zero (by omega)
      exact Or.inr ⟨g, o, 0, cs, by simp, h1, h2, by simp, by omega, h5, fun j y hy => by cases hy⟩
    · refine Or.inr ⟨g, o + 1, cap - 1, cs, by rw [if_neg hc]; simp, h1, h2, by omega, by omega, h5, fun j y hy => ?_⟩
      rw [Nat.add_assoc, Nat.add_comm 1 j]
      exact h6 (j + 1) y (by rw [List.getElem?_cons_succ]; exact hy)
theorem frSrc {w : World} {base : Nat} {v : Value} {l : List Nat} (h : FR w base v l) : Src Try.prog 1 41 v l.length (nums l) w := by
  rcases h with ⟨rfl, rfl⟩ | ⟨g, o, cap, cs, rfl, h1, h2, h3, h4, h5, h6⟩
  · exact Src.ofNil w Try.underlying41 0
  · exact Src.ofSlice w Try.underlying41 _ _ _ _ (by rw [nums_length, Nat.mul_one]) (fun j u hj => by
      obtain ⟨x, hx, rfl⟩ := nums_at hj
      rw [add_atF]
      exact h2.cell (h6 j x hx)) one_cell
theorem frMade {w : World} {L : List Nat} {cap n : Nat} (hn : n = L.length) (hge : n ≤ cap) (hle : cap ≤ 9223372036854775807) :
    FR (w.drew.alloc (.cells ((nums L).toArray ++ Builtin.zeroCells (Value.int .i64 0).cells (cap - n)) 3)) w.heap.size (.slice (some ⟨w.heap.size, 0, none⟩) n cap) L := by
  subst hn
  refine Or.inr ⟨w.heap.size, 0, _, _, rfl, Nat.le_refl _, heap_alloc_new w.drew _, hge, ?_, ?_, fun j x hj => ?_⟩
  · simp [Builtin.zeroCells, Value.cells]; rw [nums_length]; omega
  · simp [Builtin.zeroCells, Value.cells]; rw [nums_length]; omega
  · have h1 := nums_get hj
    have hlt := (List.getElem?_eq_some_iff.1 h1).1
    rw [show 0 + j = j by omega, Array.getElem?_append_left (by simpa using hlt), List.getElem?_toArray]
    exact h1
theorem wpList_append_eq {P : Program} {ops : Array Oper} {rest : List Oper} {o : Oper} {a : Act} {w w' : World} {Q : Exit → Act → World → Prop} {t tx ty : TypeId} {v1 v2 r : Value}
    (hrun : (Builtin.append_ #[t, tx] ty #[v1, v2]).run P w = .ok r w') (s x : Operand) (hgd : o.guard = none) (ho : o.op = Op.call { callee := Callee.builtin Builtin.append, args := #[s, x], argTypes := #[t, tx] }) (hty : o.type = ty)
    (hs : a.eval s = v1) (hx : a.eval x = v2) (h : wpList P ops Q rest (a.put o.dst r) w') : wpList P ops Q (o :: rest) a w := by
  subst hs hx hty
  exact wpList_append_run hgd s x t tx ho r hrun h
theorem nums_append (a b : List Nat) : nums (a ++ b) = nums a ++ nums b := by unfold nums; rw [List.map_append]
theorem append_none_nothing {w : World} {x : Value} {ty : TypeId} (hs : Src Try.prog 1 41 x 0 [] w) :
    (Builtin.append_ #[41, 41] ty #[.slice none 0 0, x]).run Try.prog w = .ok (.slice none 0 0) w := by
  obtain ⟨i, hi, hz, hs1, hb⟩ := info_parts infoIntF
  have hc := hs.cells
  have h2 := hs.len
  simp [Builtin.append_, run_underlying Try.underlying41, sizeOf, typeInfo, hi, h2, hs1, hc]

/-- append(v, src...) -/
theorem frAppend {w : World} {base : Nat} {v : Value} {l : List Nat} (h : FR w base v l) {src : Value} {l2 : List Nat} (hs : Src Try.prog 1 41 src l2.length (nums l2) w) (hl : l.length + l2.length ≤ 1000000) (hb : base ≤ w.heap.size) :
    ∃ r w', (Builtin.append_ #[41, 41] 41 #[v, src]).run Try.prog w = .ok r w' ∧ FR w' base r (l ++ l2) ∧ w.grownBy w' v.ownBlock ∧ Fresh w v r := by
  obtain ⟨i, hi, hz, hs1, hby⟩ := info_parts infoIntF
  have grow : ∀ (b : Option Addr) (sLen sCap : Nat), sLen = l.length → (Builtin.firstCells i.size sLen (.slice b sLen sCap)).run Try.prog w.drew = .ok (nums l).toArray w.drew → sCap < sLen + l2.length → (b = none → True) →
      ∃ r w', (Builtin.append_ #[41, 41] 41 #[.slice b sLen sCap, src]).run Try.prog w = .ok r w' ∧ FR w' base r (l ++ l2) ∧ w.grownBy w' (Value.slice b sLen sCap).ownBlock ∧ Fresh w (.slice b sLen sCap) r := by
    intro b sLen sCap hsl hold hlt _
    have hfit : Builtin.nextslicecap (sLen + l2.length) sCap * i.bytes ≤ 281474976710656 := by
      rw [hby]
      have := nextslicecap_le (need := sLen + l2.length) (old := sCap) (by omega)
      omega
    have hr := run_append_grow_src (P := Try.prog) w 41 41 41 3 i _ Try.underlying41 hi hz b sLen sCap (nums l) hold src l2.length (nums l2) (by rw [hs1]; exact hs) hlt (by omega) hfit
    have hge := grownCap_ge w (sLen + l2.length) sCap 3
    have hle := grownCap_le_maxLen w (sLen + l2.length) sCap 3 (by unfold maxLen; omega)
    unfold maxLen at hle
    rw [← nums_append] at hr
    have hF := frMade (w := w) (L := l ++ l2) (n := sLen + l2.length) (by rw [List.length_append, hsl]) hge (by omega)
    exact ⟨_, _, hr, hF.mono hb, ⟨rfl, rfl, rfl, by simp, fun b hb' _ => Below.heap_alloc w.drew _ b hb'⟩, hF.fresh⟩
  rcases h with ⟨rfl, rfl⟩ | ⟨g, o, cap, cs, rfl, h1, h2, h3, h4, h5, h6⟩
  · cases l2 with
    | nil => exact ⟨_, w, append_none_nothing hs, Or.inl ⟨rfl, rfl⟩, World.grownBy.refl _ _, fun g hg => Or.inl hg⟩
    | cons x l2 => exact grow none 0 0 rfl (by simp [Builtin.firstCells, nums]) (by simp) (fun _ => trivial)
  · by_cases hroom : l.length + l2.length ≤ cap
    · have hr := run_append_room_src (P := Try.prog) w 41 41 41 3 i Try.underlying41 hi g o l.length cap src l2.length (nums l2) (by rw [hs1]; exact hs) hroom
        (fun j hj => by
          rw [nums_length] at hj
          rw [hs1, Nat.mul_one, h2.cell (Array.getElem?_eq_getElem (show o + l.length + j < cs.size by omega))]
          rfl)
        (fun j hj => h2.free _)
      rw [hs1, Nat.mul_one] at hr
      obtain ⟨cs', a1, a2, a3⟩ := Bk.setCells (nums l2) (o + l.length) w cs h2
      refine ⟨_, _, hr, Or.inr ⟨g, o, cap, cs', by rw [List.length_append], h1, a1, by rw [List.length_append]; exact hroom, by omega, by omega, fun j x hj => ?_⟩, setCells_grown _ _ _ _, fun g' hg' => Or.inl hg'⟩
      rw [a3, nums_length]
      have hjl := (List.getElem?_eq_some_iff.1 hj).1
      rw [List.length_append] at hjl
      by_cases c : j < l.length
      · rw [if_neg (by omega)]
        rw [List.getElem?_append_left c] at hj
        exact h6 j x hj
      · rw [if_pos (by omega), show o + j - (o + l.length) = j - l.length by omega]
        rw [List.getElem?_append_right (by omega)] at hj
        exact nums_get hj
    · refine grow (some ⟨g, o, none⟩) l.length cap rfl ?_ (by omega) (fun h => by cases h)
      rw [hs1]
      exact run_firstCells_some w.drew 1 l.length _ _ _ _ (by rw [nums_length, Nat.mul_one]) (fun j u hj => by
        obtain ⟨x, hx, rfl⟩ := nums_at hj
        rw [add_atF]
        exact h2.cell (h6 j x hx))
theorem FR.take {w : World} {base : Nat} {A : Option Addr} {m cap : Nat} {l : List Nat} (h : FR w base (.slice A m cap) l) {k : Nat} (hk : k ≤ m) : FR w base (.slice A k cap) (l.take k) := by
  have hl := h.len
  rcases h with ⟨e, rfl⟩ | ⟨g, o, cap', cs, e, h1, h2, h3, h4, h5, h6⟩
  · simp only [Value.slice.injEq] at e
    obtain ⟨rfl, rfl, rfl⟩ := e
    obtain rfl : k = 0 := by omega
    exact Or.inl ⟨rfl, rfl⟩
  · simp only [Value.slice.injEq] at e
    obtain ⟨rfl, rfl, rfl⟩ := e
    have ht : (l.take k).length = k := by rw [List.length_take]; omega
    exact Or.inr ⟨g, o, cap, cs, by rw [ht], h1, h2, by omega, h4, h5, fun j x hj => h6 j x (by
      rw [List.getElem?_take] at hj
      split at hj
      · exact hj
      · cases hj)⟩
/-- s[k:] -/
theorem FR.drop {w : World} {base : Nat} {g o m cap : Nat} {l : List Nat} (h : FR w base (.slice (some ⟨g, o, none⟩) m cap) l) {k : Nat} (hk : k ≤ m) : m ≤ cap ∧ FR w base (.slice (some (if cap = k then ⟨g, o, none⟩ else ⟨g, o + k, none⟩)) (m - k) (cap - k)) (l.drop k) := by
  have hl := h.len
  rcases h with ⟨e, rfl⟩ | ⟨g', o', cap', cs, e, h1, h2, h3, h4, h5, h6⟩
  · cases e
  · simp only [Value.slice.injEq, Option.some.injEq, Addr.mk.injEq] at e
    obtain ⟨⟨rfl, rfl, _⟩, rfl, rfl⟩ := e
    have ht : (l.drop k).length = l.length - k := by rw [List.length_drop]
    refine ⟨h3, ?_⟩
    by_cases hc : cap = k
    · rw [if_pos hc]
      obtain rfl : k = l.length := by omega
      rw [List.drop_length]
      exact Or.inr ⟨g, o, cap - l.length, cs, by rw [List.length_nil, Nat.sub_self], h1, h2, by simp, by omega, h5, fun j y hy => by cases hy⟩
    · rw [if_neg hc]
      refine Or.inr ⟨g, o + k, cap - k, cs, by rw [ht], h1, h2, by omega, by omega, h5, fun j y hy => ?_⟩
      rw [Nat.add_assoc]
      exact h6 (k + j) y (by rw [List.getElem?_drop] at hy; exact hy)
theorem wpList_frpush {W : World} {base : Nat} {l : List Nat} {A : Option Addr} {m cap : Nat} (h : FR W base (.slice A m cap) l) {k : Nat} (hl : m ≤ 1000000) (hb : base ≤ W.heap.size)
    {ops : Array Oper} {rest : List Oper} {o : Oper} {a : Act} {Q : Exit → Act → World → Prop} (hgd : o.guard = none) (s x : Operand)
    (ho : o.op = .call { callee := .builtin .append, args := #[s, x], argTypes := #[41, 41] }) (hty : o.type = 41)
    (hs : a.eval s = .slice A m cap) (hx : a.eval x = .slice (some ⟨W.heap.size, 0, none⟩) 1 1)
    (hk : ∀ A' cap' W', W.grownBy W' (Value.slice A m cap).ownBlock → FR W' base (.slice A' (m + 1) cap') (l ++ [k]) → Fresh W (.slice A m cap) (.slice A' (m + 1) cap') →
      wpList Try.prog ops Q rest (a.put o.dst (.slice A' (m + 1) cap')) W') :
    wpList Try.prog ops Q (o :: rest) a (W.alloc (.cells #[.int .i64 (k : Int)] 3)) := by
  have hm : m = l.length := h.len
  have hF1 : FR (W.alloc (.cells #[.int .i64 (k : Int)] 3)) base (.slice A m cap) l := h.keep fun g _ hl => Below.heap_alloc W _ g hl
  obtain ⟨r, W', hr, h1, h2, h3⟩ := hF1.append_run (by omega) W.heap.size k ((Bk.new W 3 #[.int .i64 (k : Int)]).cell (i := 0) rfl) (Nat.le_trans hb (by simp))
  obtain ⟨A', cap', e⟩ := h1.form
  rw [List.length_append, List.length_singleton, ← hm] at e
  subst e
  have hr' : (Builtin.append_ #[41, 41] o.type #[a.eval s, a.eval x]).run Try.prog (W.alloc (.cells #[.int .i64 (k : Int)] 3)) = .ok (.slice A' (m + 1) cap') W' := by rw [hty, hs, hx]; exact hr
  refine wpList_append_run hgd s x _ _ ho _ hr' (hk A' cap' W' ?_ h1 (h3.older (by simp)))
  have g0 : W.grownBy (W.alloc (.cells #[.int .i64 (k : Int)] 3)) (Value.slice A m cap).ownBlock := ⟨rfl, rfl, rfl, by simp, fun b hb _ => Below.heap_alloc W _ b hb⟩
  exact grown_trans g0 h2
theorem FR.nums {w : World} {base : Nat} {A : Option Addr} {m cap : Nat} {l : List Nat} (h : FR w base (.slice A m cap) l) : NumsAt w A m (fun j => ((l.getD j 0 : Nat) : Int)) := by
  intro hm
  have hl := h.len
  obtain ⟨g, o, rfl, _⟩ := h.cellAt (j := 0) (List.getElem?_eq_getElem (by omega))
  refine ⟨g, o, rfl, fun j hj => ?_⟩
  have hj2 : j < l.length := by omega
  obtain ⟨g', o', e, hc⟩ := h.cellAt (List.getElem?_eq_getElem hj2)
  cases e
  simp only [List.getD_eq_getElem?_getD, List.getElem?_eq_getElem hj2, Option.getD_some]
  exact hc
theorem wpList_frpushI {W : World} {base : Nat} {l : List Nat} {A : Option Addr} {m cap : Nat} (h : FR W base (.slice A m cap) l) {z : Int} {k : Nat} (hz : z = (k : Int)) (hl : m ≤ 1000000) (hb : base ≤ W.heap.size)
    {ops : Array Oper} {rest : List Oper} {o : Oper} {a : Act} {Q : Exit → Act → World → Prop} (hgd : o.guard = none) (s x : Operand)
    (ho : o.op = .call { callee := .builtin .append, args := #[s, x], argTypes := #[41, 41] }) (hty : o.type = 41)
    (hs : a.eval s = .slice A m cap) (hx : a.eval x = .slice (some ⟨W.heap.size, 0, none⟩) 1 1)
    (hk : ∀ A' cap' W', W.grownBy W' (Value.slice A m cap).ownBlock → FR W' base (.slice A' (m + 1) cap') (l ++ [k]) → Fresh W (.slice A m cap) (.slice A' (m + 1) cap') →
      wpList Try.prog ops Q rest (a.put o.dst (.slice A' (m + 1) cap')) W') :
    wpList Try.prog ops Q (o :: rest) a (W.alloc (.cells #[.int .i64 z] 3)) := by
  subst hz
  exact wpList_frpush h hl hb hgd s x ho hty hs hx hk
theorem apart_fresh {w : World} {v v' r : Value} (h : ∀ g, v.ownBlock = some g → v'.ownBlock ≠ some g) (hr : Fresh w v r) (hl : ∀ g, v'.ownBlock = some g → g < w.heap.size) : ∀ g, r.ownBlock = some g → v'.ownBlock ≠ some g := fun g hg c => by
  rcases hr g hg with e | e
  · exact h g e c
  · have := hl g c; omega
theorem apart_fresh2 {w : World} {v v' r : Value} (h : ∀ g, v.ownBlock = some g → v'.ownBlock ≠ some g) (hr : Fresh w v' r) (hl : ∀ g, v.ownBlock = some g → g < w.heap.size) : ∀ g, v.ownBlock = some g → r.ownBlock ≠ some g := fun g hg c => by
  rcases hr g c with e | e
  · exact h g hg e
  · have := hl g hg; omega
theorem step_append_eq {P : Program} {ops : Array Oper} {o : Oper} {a : Act} {w w' : World} {Q : Exit → Act → World → Prop} {K : Act → World → Prop} {E : Prop} {t tx ty : TypeId} {v1 v2 r : Value}
    (hrun : (Builtin.append_ #[t, tx] ty #[v1, v2]).run P w = .ok r w') (s x : Operand) (hgd : o.guard = none) (ho : o.op = Op.call { callee := Callee.builtin Builtin.append, args := #[s, x], argTypes := #[t, tx] }) (hty : o.type = ty)
    (hs : a.eval s = v1) (hx : a.eval x = v2) (h : K (a.put o.dst r) w') : if Region.wanted o (yielded ops a.tmps) = true then Oper.wp P o a w K Q else E := by
  subst hs hx hty
  have hw : Region.wanted o (yielded ops a.tmps) = true := by simp [Region.wanted, hgd]
  rw [if_pos hw]
  unfold Oper.wp
  simp [execOp, ho, resolve, invoke, builtin, hrun, Result.andThen]
  exact h
theorem FR.heap {w w' : World} {base : Nat} {v : Value} {l : List Nat} (h : FR w base v l) (hh : w'.heap = w.heap) : FR w' base v l := h.keep fun g _ _ => by rw [hh]
end Go.Proofs.Ytnjgkgnjbmfpfaa
