/- A map keyed by ints, its keys as a list of numbers, its elements as values: what its operations do. -/
import Derived.Test.YtecimlbdcldkdaaAwk
import Derived.Maps.RangeWalk
import Derived.Maps.OwnSet
namespace Go.Proofs.Ytecimlbdcldkdaa
open Go.RowKit Go.Maps Dep

/-- how an element reads: as itself -/
def RA (v : Value) : Option (DataW Value × List MemPlace) := some (.held v, [])
theorem RA_inv {v : Value} {d : DataW Value} {ps : List MemPlace} (h : RA v = some (d, ps)) : d = .held v := by
  unfold RA at h
  simp only [Option.some.injEq, Prod.mk.injEq] at h
  exact h.1.symm
theorem lawInt : Keyed Try.prog 3 := int_keyed Try.underlying3
theorem keyInt {z : Int} (h : In64 z) : keyOf Try.prog 3 (.int .i64 z) = some (.int .i64 z) := keyOf_int_mk Try.underlying3 (WalkArith.wf_i64 ⟨h.1, h.2⟩)
def Nat64 (k : Nat) : Prop := k ≤ 9223372036854775807
theorem Nat64.int {k : Nat} (h : Nat64 k) : In64 (k : Int) := by unfold Nat64 at h; unfold In64; omega

/-- block b is a map of just these keys, each with its element -/
def MapV (w : World) (b : Nat) (ks : List Nat) (f : Nat → Value) : Prop :=
  ∃ D, w.ownsMap Try.prog 3 RA b ks.length D ∧ ks.Nodup ∧ (∀ k ∈ ks, Nat64 k) ∧ (∀ z, In64 z → (Maps.has D (.int .i64 z) = true ↔ ∃ k ∈ ks, z = (k : Int))) ∧ (∀ k ∈ ks, ∀ zd, D.atKey (.int .i64 (k : Int)) zd = .held (f k)) ∧ Maps.size D = ks.length
section
variable {w w' : World} {b r : Nat} {ks done : List Nat} {f : Nat → Value}
theorem MapV.lt (h : MapV w b ks f) : b < w.heap.size := by obtain ⟨D, h, _⟩ := h; exact h.lt
theorem MapV.nodup (h : MapV w b ks f) : ks.Nodup := by obtain ⟨D, _, h, _⟩ := h; exact h
theorem MapV.key (h : MapV w b ks f) : ∀ k ∈ ks, Nat64 k := by obtain ⟨D, _, _, h, _⟩ := h; exact h
theorem MapV.keep (h : MapV w b ks f) (hb : w'.heap[b]? = w.heap[b]?) : MapV w' b ks f := by
  obtain ⟨D, ⟨es, clock, h1, h2⟩, h3⟩ := h
  exact ⟨D, ⟨es, clock, hb.trans h1, h2⟩, h3⟩
theorem MapV.congr (h : MapV w b ks f) {f' : Nat → Value} (hf : ∀ k ∈ ks, f k = f' k) : MapV w b ks f' := by
  obtain ⟨D, h1, h2, h3, h4, h5, h6⟩ := h
  exact ⟨D, h1, h2, h3, h4, fun k hk zd => by rw [h5 k hk zd, hf k hk], h6⟩
theorem MapV.made (w : World) (f : Nat → Value) : MapV (w.alloc (.map #[] 0)) w.heap.size [] f :=
  ⟨.map [], World.ownsMap_made w _ _ _, List.nodup_nil, fun k hk => (by cases hk), fun z _ => by simp [Maps.has], fun k hk => (by cases hk), rfl⟩
theorem MapV.madeAt {W : World} (h : W.heap.size = b) (f : Nat → Value) : MapV (W.alloc (.map #[] 0)) b [] f := by subst h; exact MapV.made W f
theorem MapV.notCells (h : MapV w b ks f) {g : Nat} {t : TypeId} {cs : Array Value} (h' : Bk w g t cs) : b ≠ g := by
  rintro rfl
  obtain ⟨D, ⟨es, clock, h1, _⟩, _⟩ := h
  unfold Bk at h'
  rw [h1] at h'
  cases h'
/-- m[k], k there -/
theorem MapV.look (h : MapV w b ks f) {t e : TypeId} (ht : Try.prog.underlying t = some (.map 3 e)) {z : Value} (hz : (zeroValue e).run Try.prog w = .ok z w) {k : Nat} (hk : k ∈ ks) :
    (Instr.lookup t (.map (some b)) (.int .i64 (k : Int)) false).run Try.prog w = .ok (f k) w := by
  obtain ⟨D, h1, h2, h3, h4, h5, h6⟩ := h
  obtain ⟨v, ps, hr, hv⟩ := h1.lookup lawInt ht hz (show RA z = some (.held z, []) from rfl) (keyInt (h3 k hk).int)
  have := RA_inv hv
  rw [h5 k hk] at this
  simp only [DataW.held.injEq] at this
  rw [this]
  exact hr
/-- m[k], k not there -/
theorem MapV.lookNot (h : MapV w b ks f) {t e : TypeId} (ht : Try.prog.underlying t = some (.map 3 e)) {z : Value} (hz : (zeroValue e).run Try.prog w = .ok z w) {x : Int} (hx : In64 x) (hn : ∀ k ∈ ks, x ≠ (k : Int)) :
    (Instr.lookup t (.map (some b)) (.int .i64 x) false).run Try.prog w = .ok z w := by
  obtain ⟨D, h1, h2, h3, h4, h5, h6⟩ := h
  obtain ⟨v, ps, hr, hv⟩ := h1.lookup lawInt ht hz (show RA z = some (.held z, []) from rfl) (keyInt hx)
  have hh : Maps.has D (.int .i64 x) = false := by
    cases c : Maps.has D (.int .i64 x) with
    | false => rfl
    | true =>
      obtain ⟨k, hk, e⟩ := (h4 x hx).1 c
      exact absurd e (hn k hk)
  have := RA_inv hv
  rw [Maps.atKey_of_not_has hh] at this
  simp only [DataW.held.injEq] at this
  rw [this]
  exact hr
/-- v, ok := m[k] -/
theorem MapV.lookOk (h : MapV w b ks f) {t e : TypeId} (ht : Try.prog.underlying t = some (.map 3 e)) {z : Value} (hz : (zeroValue e).run Try.prog w = .ok z w) {k : Nat} (hk64 : Nat64 k) :
    ∃ v, (Instr.lookup t (.map (some b)) (.int .i64 (k : Int)) true).run Try.prog w = .ok (.tuple #[v, .bool (ks.contains k)]) w := by
  obtain ⟨D, h1, h2, h3, h4, h5, h6⟩ := h
  obtain ⟨v, ps, hr, hv⟩ := h1.look_ok lawInt ht hz (show RA z = some (.held z, []) from rfl) (keyInt hk64.int)
  have e : Maps.has D (.int .i64 (k : Int)) = ks.contains k := by
    rw [Bool.eq_iff_iff, h4 _ hk64.int, List.contains_iff_mem]
    constructor
    · rintro ⟨j, hj, e⟩
      have : k = j := by omega
      rw [this]; exact hj
    · intro hk
      exact ⟨k, hk, rfl⟩
  rw [e] at hr
  exact ⟨v, hr⟩
theorem MapV.len (h : MapV w b ks f) {t e : TypeId} (ht : Try.prog.underlying t = some (.map 3 e)) (ty : TypeId) : (Builtin.len_ #[t] ty #[.map (some b)]).run Try.prog w = .ok (.int .i64 (ks.length : Nat)) w := by
  obtain ⟨D, h1, h2, h3, h4, h5, h6⟩ := h
  rw [← h6]
  exact h1.len ht ty
theorem sameKey_int {x y : Int} : (Lit.int .i64 x).sameKey (.int .i64 y) = decide (x = y) := by
  by_cases h : x = y
  · subst h; simp [WideAt.sameKey_self (show WideAt.IsKeyLit (.int .i64 x) from trivial)]
  · rw [Maps.sameKey_ne (by simp [h])]; simp [h]
/-- m[k] = v, k not there -/
theorem MapV.put (h : MapV w b ks f) {t e : TypeId} (ht : Try.prog.underlying t = some (.map 3 e)) {k : Nat} (hk64 : Nat64 k) (hk : k ∉ ks) (hl : ks.length ≤ 1000000) (v : Value) :
    ∃ w', (Instr.mapUpdate t (.map (some b)) (.int .i64 (k : Int)) v).run Try.prog w = .ok () w' ∧ MapV w' b (ks ++ [k]) (upd f k v) ∧ w.grownBy w' (some b) := by
  obtain ⟨D, h1, h2, h3, h4, h5, h6⟩ := h
  obtain ⟨w', hr, h7, h8⟩ := h1.update lawInt ht (by unfold maxLen; omega) (keyInt hk64.int) (show RA v = some (.held v, []) from rfl)
  have hD := h1.isMap
  have hT := h1.tidy lawInt
  have hno : Maps.has D (.int .i64 (k : Int)) = false := by
    cases c : Maps.has D (.int .i64 (k : Int)) with
    | false => rfl
    | true =>
      obtain ⟨j, hj, e⟩ := (h4 _ hk64.int).1 c
      have : k = j := by omega
      exact absurd (this ▸ hj) hk
  refine ⟨w', hr, ⟨_, by rw [List.length_append, List.length_singleton]; exact h7, ?_, fun j hj => ?_, fun z hz => ?_, fun j hj zd => ?_, ?_⟩, h8⟩
  · rw [List.nodup_append]
    refine ⟨h2, by simp, fun a ha c hc e => ?_⟩
    simp at hc
    rw [e, hc] at ha
    exact hk ha
  · rcases List.mem_append.1 hj with c | c
    · exact h3 j c
    · simp at c; rw [c]; exact hk64
  · by_cases e : z = (k : Int)
    · subst e
      rw [Maps.has_put_same hD (show WideAt.IsKeyLit (.int .i64 (k : Int)) from trivial)]
      simp
    · rw [Maps.has_put_other (by simp [e]), h4 z hz]
      simp [e]
  · by_cases e : j = k
    · subst e
      rw [Maps.atKey_put_same hD (show WideAt.IsKeyLit (.int .i64 (j : Int)) from trivial), upd_same]
    · have hj2 : j ∈ ks := by
        rcases List.mem_append.1 hj with c | c
        · exact c
        · simp at c; exact absurd c e
      rw [Maps.atKey_put_other (by simp; omega), upd_other _ _ e]
      exact h5 j hj2 zd
  · rw [Maps.size_put hT, hno]
    simp [h6]
/-- delete(m, k) -/
theorem MapV.del (h : MapV w b ks f) {t e : TypeId} (ht : Try.prog.underlying t = some (.map 3 e)) {k : Nat} (hk64 : Nat64 k) (ty : TypeId) :
    ∃ w', (Builtin.delete_ #[t, 3] ty #[.map (some b), .int .i64 (k : Int)]).run Try.prog w = .ok (.tuple #[]) w' ∧ MapV w' b (ks.filter (fun j => decide (j ≠ k))) f ∧ w.grownBy w' (some b) := by
  obtain ⟨D, h1, h2, h3, h4, h5, h6⟩ := h
  obtain ⟨w', hr, h7, h8⟩ := h1.drop lawInt ht (keyInt hk64.int) ty
  have hT := h1.tidy lawInt
  have hsz := Maps.size_del (k := .int .i64 (k : Int)) hT
  have hlen : (D.del (.int .i64 (k : Int))) = D.del (.int .i64 (k : Int)) := rfl
  have hcnt : (ks.filter (fun j => decide (j ≠ k))).length + (if Maps.has D (.int .i64 (k : Int)) then 1 else 0) = ks.length := by
    have key : ∀ l : List Nat, l.Nodup → (l.filter (fun j => decide (j ≠ k))).length + (if k ∈ l then 1 else 0) = l.length := by
      intro l
      induction l with
      | nil => simp
      | cons x l ih =>
        intro hn
        rw [List.nodup_cons] at hn
        have := ih hn.2
        by_cases e : x = k
        · subst e
          have hx := hn.1
          simp [hx] at this ⊢
          omega
        · simp [e, Ne.symm e] at this ⊢
          omega
    have := key ks h2
    have e : (Maps.has D (.int .i64 (k : Int)) = true) ↔ k ∈ ks := by
      rw [h4 _ hk64.int]
      constructor
      · rintro ⟨j, hj, e⟩
        have : k = j := by omega
        rw [this]; exact hj
      · intro hk; exact ⟨k, hk, rfl⟩
    by_cases c : k ∈ ks
    · rw [if_pos (e.2 c)]; rw [if_pos c] at this; exact this
    · rw [if_neg (fun d => c (e.1 d))]; rw [if_neg c] at this; exact this
  have hs2 : Maps.size (D.del (.int .i64 (k : Int))) = (ks.filter (fun j => decide (j ≠ k))).length := by omega
  refine ⟨w', hr, ⟨_, ?_, h2.filter _, fun j hj => h3 j (List.mem_filter.1 hj).1, fun z hz => ?_, fun j hj zd => ?_, hs2⟩, h8.grown⟩
  · obtain ⟨es, clock, a1, a2, a3, a4⟩ := h7
    refine ⟨es, clock, a1, a2, ?_, a4⟩
    have : Maps.size (D.del (.int .i64 (k : Int))) = es.size := by rw [a4]; simp [Maps.size, length_sorted]
    omega
  · by_cases e : z = (k : Int)
    · subst e
      rw [Maps.has_del_same]
      constructor
      · intro c; cases c
      · rintro ⟨j, hj, e⟩
        have h9 := (List.mem_filter.1 hj).2
        simp at h9
        omega
    · rw [Maps.has_del_other (by simp [e]), h4 z hz]
      constructor
      · rintro ⟨j, hj, e2⟩
        exact ⟨j, List.mem_filter.2 ⟨hj, by simp; omega⟩, e2⟩
      · rintro ⟨j, hj, e2⟩
        exact ⟨j, (List.mem_filter.1 hj).1, e2⟩
  · have h9 := List.mem_filter.1 hj
    have hne : j ≠ k := by simpa using h9.2
    rw [Maps.atKey_del_other (by simp; omega)]
    exact h5 j h9.1 zd

/-- 'for k, v := range m' under way: those of done have come -/
def RangV (w : World) (b r : Nat) (ks : List Nat) (f : Nat → Value) (done : List Nat) : Prop :=
  ∃ D left cnt, w.ranges Try.prog 3 RA b r ks.length D left cnt ∧ (∀ k ∈ ks, Nat64 k) ∧ (∀ k ∈ ks, ∀ zd, D.atKey (.int .i64 (k : Int)) zd = .held (f k)) ∧
    (∀ kl, left kl = true ↔ ∃ k ∈ ks, kl = .int .i64 (k : Int) ∧ k ∉ done) ∧ done.Nodup ∧ ∀ k ∈ done, k ∈ ks
theorem RangV.keep (h : RangV w b r ks f done) (hb : w'.heap[b]? = w.heap[b]?) (hr : w'.heap[r]? = w.heap[r]?) : RangV w' b r ks f done := by
  obtain ⟨D, left, cnt, ⟨es, clock, since, seen, c0, h1, h2, h3, h4, h5, h6⟩, h7⟩ := h
  exact ⟨D, left, cnt, ⟨es, clock, since, seen, c0, hb.trans h1, h2, h3, h4, hr.trans h5, h6⟩, h7⟩
theorem RangV.ltb (h : RangV w b r ks f done) : b < w.heap.size := by obtain ⟨D, left, cnt, h, _⟩ := h; exact h.owns.lt
theorem RangV.ltr (h : RangV w b r ks f done) : r < w.heap.size := by obtain ⟨D, left, cnt, h, _⟩ := h; exact h.lt
theorem RangV.sub (h : RangV w b r ks f done) : done.Nodup ∧ ∀ k ∈ done, k ∈ ks := by obtain ⟨D, left, cnt, _, _, _, _, h⟩ := h; exact h
end

section
variable {w : World} {b : Nat} {ks : List Nat} {f : Nat → Value} {ops : Array Oper} {rest : List Oper} {o : Oper} {a : Act} {Q : Exit → Act → World → Prop}
theorem wpList_range_V (h : MapV w b ks f) {t e : TypeId} (ht : Try.prog.underlying t = some (.map 3 e)) (hg : o.guard = none) (m : Operand) (hop : o.op = Op.range t m) (hm : a.eval m = .map (some b))
    (hK : ∀ w', RangV w' b w.heap.size ks f [] → w.grownBy w' none → w'.heap.size = w.heap.size + 1 → wpList Try.prog ops Q rest (a.put o.dst (.pointer (some ⟨w.heap.size, 0, none⟩))) w') :
    wpList Try.prog ops Q (o :: rest) a w := by
  obtain ⟨D, h1, h2, h3, h4, h5, h6⟩ := h
  refine wpList_range_own w hg m t hop 3 e lawInt ht RA b _ D hm h1 fun w' hr hgr hs => hK w' ?_ hgr hs
  refine ⟨D, _, _, hr, h3, h5, fun kl => ?_, List.nodup_nil, fun k hk => (by cases hk)⟩
  constructor
  · intro hl
    obtain ⟨es, clock, since, seen, c0, b1, b2, b3, b4, b5, b6, b7, b8, b9, _⟩ := hr
    obtain ⟨x, hx, hxk⟩ := b9 kl hl
    obtain ⟨y, hy⟩ := b2.reads x hx
    have hkey := WideElems.rd_key hy
    obtain ⟨q, hq, hq2, hq3⟩ := Maps.keyOf_int_inv Try.underlying3 hkey
    have hkl : kl = .int .i64 q := by rw [← hxk, WideElems.rg_of hy]; exact hq2
    subst hkl
    obtain ⟨k, hk, e1⟩ := (h4 q (by
      have := (bounds_i64 hq3)
      exact ⟨this.1, this.2⟩)).1 hl
    exact ⟨k, hk, by rw [e1], by simp⟩
  · rintro ⟨k, hk, rfl, _⟩
    exact (h4 _ (h3 k hk).int).2 ⟨k, hk, rfl⟩
theorem wpList_next_V {r : Nat} {done : List Nat} (h : RangV w b r ks f done) (hg : o.guard = none) (it : Operand) (hop : o.op = Op.next it false) (hit : a.eval it = .pointer (some ⟨r, 0, none⟩))
    (hDone : (∀ k ∈ ks, k ∈ done) → wpList Try.prog ops Q rest (a.put o.dst (.tuple #[.bool false])) w)
    (hMore : ∀ (k : Nat) (w' : World), k ∈ ks → k ∉ done → RangV w' b r ks f (done ++ [k]) → w.grownBy w' (some r) → w'.heap.size = w.heap.size → (Instr.entry (.pointer (some ⟨r, 0, none⟩))).run Try.prog w' = .ok (.tuple #[.int .i64 (k : Int), f k]) w' →
      wpList Try.prog ops Q rest (a.put o.dst (.tuple #[.bool true, .int .i64 (k : Int), f k])) w') :
    wpList Try.prog ops Q (o :: rest) a w := by
  obtain ⟨D, left, cnt, h1, h2, h3, h4, h5, h6⟩ := h
  refine wpList_plain hg fun K' hK' => ?_
  unfold Oper.wp
  rcases h1.next lawInt o.type with ⟨h0, hl, hrun⟩ | ⟨key, v, kl, y, w', cnt', hkey, hlk, hv, hat, hrun, hrg, hlt, hgr, hsz, hen⟩
  · simp [execOp, hop, hit, hrun, Result.andThen]
    refine hK' _ _ (hDone fun k hk => Classical.byContradiction fun c => ?_)
    have := (h4 (.int .i64 (k : Int))).2 ⟨k, hk, rfl, c⟩
    rw [hl] at this
    cases this
  · obtain ⟨k, hk, e1, hkd⟩ := (h4 kl).1 hlk
    subst e1
    obtain ⟨q, hq, hq2, _⟩ := Maps.keyOf_int_inv Try.underlying3 hkey
    simp only [Lit.int.injEq, true_and] at hq2
    subst hq
    subst hq2
    have hy := RA_inv hv
    have hfv : v = f k := by
      have := hat (.nil)
      rw [h3 k hk, hy] at this
      simp only [DataW.held.injEq] at this
      exact this.symm
    subst hfv
    simp [execOp, hop, hit, hrun, Result.andThen]
    refine hK' _ _ (hMore k w' hk hkd ⟨D, _, cnt', hrg, h2, h3, fun kl => ?_, ?_, fun j hj => ?_⟩ hgr hsz hen)
    · rw [Bool.and_eq_true, h4 kl]
      constructor
      · rintro ⟨⟨j, hj, rfl, hjd⟩, hs⟩
        rw [sameKey_int] at hs
        simp at hs
        refine ⟨j, hj, rfl, ?_⟩
        rw [List.mem_append]
        rintro (c | c)
        · exact hjd c
        · simp at c; omega
      · rintro ⟨j, hj, rfl, hjd⟩
        rw [List.mem_append] at hjd
        refine ⟨⟨j, hj, rfl, fun c => hjd (Or.inl c)⟩, ?_⟩
        rw [sameKey_int]
        have : j ≠ k := fun c => hjd (Or.inr (by simp [c]))
        simp
        omega
    · rw [List.nodup_append]
      refine ⟨h5, by simp, fun x hx z hz e => ?_⟩
      simp at hz
      rw [e, hz] at hx
      exact hkd hx
    · rcases List.mem_append.1 hj with c | c
      · exact h6 j c
      · simp at c; rw [c]; exact hk
end
end Go.Proofs.Ytecimlbdcldkdaa
