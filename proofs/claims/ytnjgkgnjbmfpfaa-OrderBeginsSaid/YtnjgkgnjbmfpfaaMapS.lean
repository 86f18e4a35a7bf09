/- A map keyed by strings, its keys as a list of byte rows, its elements as values: what its operations do. -/
import Derived.Test.YtnjgkgnjbmfpfaaRow
import Derived.Test.YtnjgkgnjbmfpfaaMem
import Derived.Maps.RangeWalk
import Derived.Maps.OwnSet
import Derived.Sort.KeysCollected
import Derived.Sort.MapsRangeIn
namespace Go.Proofs.Ytnjgkgnjbmfpfaa
open Go.RowKit Go.Maps Go.Sort

/-- how an element reads: as itself -/
def RA (v : Value) : Option (DataW Value × List MemPlace) := some (.held v, [])
theorem RA_inv {v : Value} {d : DataW Value} {ps : List MemPlace} (h : RA v = some (d, ps)) : d = .held v := by
  unfold RA at h
  simp only [Option.some.injEq, Prod.mk.injEq] at h
  exact h.1.symm
abbrev Str := List UInt8
theorem lawStr : Keyed Try.prog 9 := string_keyed Try.underlying9
theorem keyStr {k : Str} (h : k.length ≤ maxLen) : keyOf Try.prog 9 (encStr k) = some (.string k) := by
  simp [keyOf, Try.underlying9, mapKey, encStr]
  exact h
def updS {α : Type} (f : Str → α) (i : Str) (x : α) : Str → α := fun k => if k = i then x else f k
theorem updS_same {α : Type} (f : Str → α) (i : Str) (x : α) : updS f i x i = x := by unfold updS; rw [if_pos rfl]
theorem updS_other {α : Type} (f : Str → α) {i k : Str} (x : α) (h : k ≠ i) : updS f i x k = f k := by unfold updS; rw [if_neg h]

/-- block b is a map of just these keys, each with its element -/
def MapS (w : World) (b : Nat) (ks : List Str) (f : Str → Value) : Prop :=
  ∃ D, w.ownsMap Try.prog 9 RA b ks.length D ∧ ks.Nodup ∧ (∀ k ∈ ks, k.length ≤ maxLen) ∧ (∀ z : Str, z.length ≤ maxLen → (Maps.has D (.string z) = true ↔ z ∈ ks)) ∧ (∀ k ∈ ks, ∀ zd, D.atKey (.string k) zd = .held (f k)) ∧ Maps.size D = ks.length
section
variable {w w' : World} {b r : Nat} {ks done : List Str} {f : Str → Value}
theorem MapS.lt (h : MapS w b ks f) : b < w.heap.size := by obtain ⟨D, h, _⟩ := h; exact h.lt
theorem MapS.nodup (h : MapS w b ks f) : ks.Nodup := by obtain ⟨D, _, h, _⟩ := h; exact h
theorem MapS.key (h : MapS w b ks f) : ∀ k ∈ ks, k.length ≤ maxLen := by obtain ⟨D, _, _, h, _⟩ := h; exact h
theorem MapS.keep (h : MapS w b ks f) (hb : w'.heap[b]? = w.heap[b]?) : MapS w' b ks f := by
  obtain ⟨D, ⟨es, clock, h1, h2⟩, h3⟩ := h
  exact ⟨D, ⟨es, clock, hb.trans h1, h2⟩, h3⟩
theorem MapS.made (w : World) (f : Str → Value) : MapS (w.alloc (.map #[] 0)) w.heap.size [] f :=
  ⟨.map [], World.ownsMap_made w _ _ _, List.nodup_nil, fun k hk => (by cases hk), fun z _ => by simp [Maps.has], fun k hk => (by cases hk), rfl⟩
theorem MapS.madeAt {W : World} (h : W.heap.size = b) (f : Str → Value) : MapS (W.alloc (.map #[] 0)) b [] f := by subst h; exact MapS.made W f
theorem MapS.notCells (h : MapS w b ks f) {g : Nat} {t : TypeId} {cs : Array Value} (h' : Bk w g t cs) : b ≠ g := by
  rintro rfl
  obtain ⟨D, ⟨es, clock, h1, _⟩, _⟩ := h
  unfold Bk at h'
  rw [h1] at h'
  cases h'
/-- m[k], k there -/
theorem MapS.look (h : MapS w b ks f) {t e : TypeId} (ht : Try.prog.underlying t = some (.map 9 e)) {z : Value} (hz : (zeroValue e).run Try.prog w = .ok z w) {k : Str} (hk : k ∈ ks) :
    (Instr.lookup t (.map (some b)) (encStr k) false).run Try.prog w = .ok (f k) w := by
  obtain ⟨D, h1, h2, h3, h4, h5, h6⟩ := h
  obtain ⟨v, ps, hr, hv⟩ := h1.lookup lawStr ht hz (show RA z = some (.held z, []) from rfl) (keyStr (h3 k hk))
  have := RA_inv hv
  rw [h5 k hk] at this
  simp only [DataW.held.injEq] at this
  rw [this]
  exact hr
/-- m[k], k not there -/
theorem MapS.lookNot (h : MapS w b ks f) {t e : TypeId} (ht : Try.prog.underlying t = some (.map 9 e)) {z : Value} (hz : (zeroValue e).run Try.prog w = .ok z w) {x : Str} (hx : x.length ≤ maxLen) (hn : x ∉ ks) :
    (Instr.lookup t (.map (some b)) (encStr x) false).run Try.prog w = .ok z w := by
  obtain ⟨D, h1, h2, h3, h4, h5, h6⟩ := h
  obtain ⟨v, ps, hr, hv⟩ := h1.lookup lawStr ht hz (show RA z = some (.held z, []) from rfl) (keyStr hx)
  have hh : Maps.has D (.string x) = false := by
    cases c : Maps.has D (.string x) with
    | false => rfl
    | true => exact absurd ((h4 x hx).1 c) hn
  have := RA_inv hv
  rw [Maps.atKey_of_not_has hh] at this
  simp only [DataW.held.injEq] at this
  rw [this]
  exact hr
/-- m[k] = v, k not there -/
theorem MapS.put (h : MapS w b ks f) {t e : TypeId} (ht : Try.prog.underlying t = some (.map 9 e)) {k : Str} (hk64 : k.length ≤ maxLen) (hk : k ∉ ks) (hl : ks.length ≤ 1000000) (v : Value) :
    ∃ w', (Instr.mapUpdate t (.map (some b)) (encStr k) v).run Try.prog w = .ok () w' ∧ MapS w' b (ks ++ [k]) (updS f k v) ∧ w.grownBy w' (some b) := by
  obtain ⟨D, h1, h2, h3, h4, h5, h6⟩ := h
  obtain ⟨w', hr, h7, h8⟩ := h1.update lawStr ht (by unfold maxLen; omega) (keyStr hk64) (show RA v = some (.held v, []) from rfl)
  have hD := h1.isMap
  have hT := h1.tidy lawStr
  have hno : Maps.has D (.string k) = false := by
    cases c : Maps.has D (.string k) with
    | false => rfl
    | true => exact absurd ((h4 _ hk64).1 c) hk
  refine ⟨w', hr, ⟨_, by rw [List.length_append, List.length_singleton]; exact h7, ?_, fun j hj => ?_, fun z hz => ?_, fun j hj zd => ?_, ?_⟩, h8⟩
  · rw [List.nodup_append]
    refine ⟨h2, by simp, fun a ha c hc e => ?_⟩
    simp at hc
    rw [e, hc] at ha
    exact hk ha
  · rcases List.mem_append.1 hj with c | c
    · exact h3 j c
    · simp at c; rw [c]; exact hk64
  · by_cases e : z = k
    · subst e
      rw [Maps.has_put_same hD (show WideAt.IsKeyLit (.string z) from trivial)]
      simp
    · rw [Maps.has_put_other (by simp [e]), h4 z hz]
      simp [e]
  · by_cases e : j = k
    · subst e
      rw [Maps.atKey_put_same hD (show WideAt.IsKeyLit (.string j) from trivial), updS_same]
    · have hj2 : j ∈ ks := by
        rcases List.mem_append.1 hj with c | c
        · exact c
        · simp at c; exact absurd c e
      rw [Maps.atKey_put_other (by simp [e]), updS_other _ _ e]
      exact h5 j hj2 zd
  · rw [Maps.size_put hT, hno]
    simp [h6]
/-- its keys, as the sort's contract has them -/
theorem MapS.keys (h : MapS w b ks f) : ∃ D, w.ownsMap Try.prog 9 RA b ks.length D ∧ Maps.size D = ks.length ∧ ks.Perm (strKeys D) := by
  obtain ⟨D, h1, h2, h3, h4, h5, h6⟩ := h
  refine ⟨D, h1, h6, ?_⟩
  obtain ⟨es, hD, hpw, _⟩ := h1.entries lawStr
  obtain ⟨es', hD', hko⟩ := h1.keysOf
  obtain rfl : es = es' := by rw [hD] at hD'; simpa using hD'
  have hle := strKeys_le h1 Try.underlying9
  subst hD
  have hks : ∀ p ∈ es, ∃ x, p.1 = .string x := fun p hp => by obtain ⟨v, hv⟩ := hko p hp; obtain ⟨x, _, hx, _⟩ := Maps.keyOf_str Try.underlying9 hv; exact ⟨x, hx⟩
  refine perm_strKeys hpw hks h2 fun x => ?_
  constructor
  · exact fun hx => (h4 x (h3 x hx)).2 hx
  · intro hx
    refine (h4 x ?_).1 hx
    rw [Maps.has_eq, List.any_eq_true] at hx
    obtain ⟨p, hp, hs⟩ := hx
    obtain ⟨a, ha⟩ := hks p hp
    rw [ha] at hs
    have e : a = x := by simpa [Lit.sameKey] using hs
    refine hle x ?_
    show x ∈ es.map fun p => strOf p.1
    exact List.mem_map.2 ⟨p, hp, by rw [ha, ← e]; rfl⟩
/-- 'for k, v := range m' under way: those of done have come -/
def RangS (w : World) (b r : Nat) (ks : List Str) (f : Str → Value) (done : List Str) : Prop :=
  ∃ D left cnt, w.ranges Try.prog 9 RA b r ks.length D left cnt ∧ (∀ k ∈ ks, k.length ≤ maxLen) ∧ (∀ k ∈ ks, ∀ zd, D.atKey (.string k) zd = .held (f k)) ∧
    (∀ kl, left kl = true ↔ ∃ k ∈ ks, kl = .string k ∧ k ∉ done) ∧ done.Nodup ∧ ∀ k ∈ done, k ∈ ks
theorem RangS.keep (h : RangS w b r ks f done) (hb : w'.heap[b]? = w.heap[b]?) (hr : w'.heap[r]? = w.heap[r]?) : RangS w' b r ks f done := by
  obtain ⟨D, left, cnt, ⟨es, clock, since, seen, c0, h1, h2, h3, h4, h5, h6⟩, h7⟩ := h
  exact ⟨D, left, cnt, ⟨es, clock, since, seen, c0, hb.trans h1, h2, h3, h4, hr.trans h5, h6⟩, h7⟩
theorem RangS.ltb (h : RangS w b r ks f done) : b < w.heap.size := by obtain ⟨D, left, cnt, h, _⟩ := h; exact h.owns.lt
theorem RangS.ltr (h : RangS w b r ks f done) : r < w.heap.size := by obtain ⟨D, left, cnt, h, _⟩ := h; exact h.lt
theorem RangS.sub (h : RangS w b r ks f done) : done.Nodup ∧ ∀ k ∈ done, k ∈ ks := by obtain ⟨D, left, cnt, _, _, _, _, h⟩ := h; exact h
end

section
variable {w : World} {b : Nat} {ks : List Str} {f : Str → Value} {ops : Array Oper} {rest : List Oper} {o : Oper} {a : Act} {Q : Exit → Act → World → Prop}
theorem wpList_range_S (h : MapS w b ks f) {t e : TypeId} (ht : Try.prog.underlying t = some (.map 9 e)) (hg : o.guard = none) (m : Operand) (hop : o.op = Op.range t m) (hm : a.eval m = .map (some b))
    (hK : ∀ w', RangS w' b w.heap.size ks f [] → w.grownBy w' none → w'.heap.size = w.heap.size + 1 → wpList Try.prog ops Q rest (a.put o.dst (.pointer (some ⟨w.heap.size, 0, none⟩))) w') :
    wpList Try.prog ops Q (o :: rest) a w := by
  obtain ⟨D, h1, h2, h3, h4, h5, h6⟩ := h
  refine wpList_range_own w hg m t hop 9 e lawStr ht RA b _ D hm h1 fun w' hr hgr hs => hK w' ?_ hgr hs
  refine ⟨D, _, _, hr, h3, h5, fun kl => ?_, List.nodup_nil, fun k hk => (by cases hk)⟩
  constructor
  · intro hl
    obtain ⟨es, clock, since, seen, c0, b1, b2, b3, b4, b5, b6, b7, b8, b9, _⟩ := hr
    obtain ⟨x, hx, hxk⟩ := b9 kl hl
    obtain ⟨y, hy⟩ := b2.reads x hx
    have hkey := WideElems.rd_key hy
    obtain ⟨q, hq, hq2, hq3⟩ := Maps.keyOf_str Try.underlying9 hkey
    have hkl : kl = .string q := by rw [← hxk, WideElems.rg_of hy]; exact hq2
    subst hkl
    exact ⟨q, (h4 q hq3).1 hl, rfl, by simp⟩
  · rintro ⟨k, hk, rfl, _⟩
    exact (h4 _ (h3 k hk)).2 hk
theorem wpList_next_S {r : Nat} {done : List Str} (h : RangS w b r ks f done) (hg : o.guard = none) (it : Operand) (hop : o.op = Op.next it false) (hit : a.eval it = .pointer (some ⟨r, 0, none⟩))
    (hDone : (∀ k ∈ ks, k ∈ done) → wpList Try.prog ops Q rest (a.put o.dst (.tuple #[.bool false])) w)
    (hMore : ∀ (k : Str) (w' : World), k ∈ ks → k ∉ done → RangS w' b r ks f (done ++ [k]) → w.grownBy w' (some r) → w'.heap.size = w.heap.size → (Instr.entry (.pointer (some ⟨r, 0, none⟩))).run Try.prog w' = .ok (.tuple #[encStr k, f k]) w' →
      wpList Try.prog ops Q rest (a.put o.dst (.tuple #[.bool true, encStr k, f k])) w') :
    wpList Try.prog ops Q (o :: rest) a w := by
  obtain ⟨D, left, cnt, h1, h2, h3, h4, h5, h6⟩ := h
  refine wpList_plain hg fun K' hK' => ?_
  unfold Oper.wp
  rcases h1.next lawStr o.type with ⟨h0, hl, hrun⟩ | ⟨key, v, kl, y, w', cnt', hkey, hlk, hv, hat, hrun, hrg, hlt, hgr, hsz, hen⟩
  · simp [execOp, hop, hit, hrun, Result.andThen]
    refine hK' _ _ (hDone fun k hk => Classical.byContradiction fun c => ?_)
    have := (h4 (.string k)).2 ⟨k, hk, rfl, c⟩
    rw [hl] at this
    cases this
  · obtain ⟨k, hk, e1, hkd⟩ := (h4 kl).1 hlk
    subst e1
    obtain ⟨q, hq, hq2, _⟩ := Maps.keyOf_str Try.underlying9 hkey
    simp only [Lit.string.injEq] at hq2
    subst hq2
    subst hq
    have hy := RA_inv hv
    have hfv : v = f k := by
      have := hat (.nil)
      rw [h3 k hk, hy] at this
      simp only [DataW.held.injEq] at this
      exact this.symm
    subst hfv
    simp [execOp, hop, hit, hrun, Result.andThen]
    refine hK' _ _ (hMore k w' hk hkd ⟨D, _, cnt', hrg, h2, h3, fun kl => ?_, ?_, fun j hj => ?_⟩ hgr hsz hen)
    · rw [Bool.and_eq_true, h4 kl]
      constructor
      · rintro ⟨⟨j, hj, rfl, hjd⟩, hs⟩
        refine ⟨j, hj, rfl, ?_⟩
        rw [List.mem_append]
        rintro (c | c)
        · exact hjd c
        · simp at c; simp [Lit.sameKey, c] at hs
      · rintro ⟨j, hj, rfl, hjd⟩
        rw [List.mem_append] at hjd
        refine ⟨⟨j, hj, rfl, fun c => hjd (Or.inl c)⟩, ?_⟩
        have : j ≠ k := fun c => hjd (Or.inr (by simp [c]))
        simp [Lit.sameKey, this]
    · rw [List.nodup_append]
      refine ⟨h5, by simp, fun x hx z hz e => ?_⟩
      simp at hz
      rw [e, hz] at hx
      exact hkd hx
    · rcases List.mem_append.1 hj with c | c
      · exact h6 j c
      · simp at c; rw [c]; exact hk
end
end Go.Proofs.Ytnjgkgnjbmfpfaa
