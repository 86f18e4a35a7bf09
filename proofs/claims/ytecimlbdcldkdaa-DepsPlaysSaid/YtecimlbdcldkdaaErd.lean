/- Rows of jobs in blocks of their own: append; the reference's graph with one job more. -/
import Derived.Test.YtecimlbdcldkdaaRbd
namespace Go.Proofs.Ytecimlbdcldkdaa
open Go.RowKit Go.Sort Go.Maps Dep

theorem add_atF (b off k : Nat) : (⟨b, off, none⟩ : Addr).add k = ⟨b, off + k, none⟩ := by
  simp [Addr.add]
/-- a kind of element: its type, its slice's, its cells -/
structure ElOk {α : Type} (t ts : TypeId) (k bytes : Nat) (cells : α → List Value) : Prop where
  under : Try.prog.underlying ts = some (.slice t)
  info : ∃ i z, Try.prog.info? t = some i ∧ i.zero = some z ∧ i.size = k ∧ i.bytes = bytes ∧ z.cells.size = k
  pos : 0 < k
  small : bytes ≤ 1000
  len : ∀ x, (cells x).length = k
  one : ∀ x, ∀ u ∈ cells x, u.oneCell' = true
theorem flat_len {α : Type} {cells : α → List Value} {k : Nat} (h : ∀ x, (cells x).length = k) : ∀ l : List α, (l.flatMap cells).length = l.length * k
  | [] => by simp
  | x :: l => by rw [List.flatMap_cons, List.length_append, h x, flat_len h l, List.length_cons, Nat.succ_mul, Nat.add_comm]
theorem flat_get {α : Type} {cells : α → List Value} {k : Nat} (h : ∀ x, (cells x).length = k) : ∀ (l : List α) (i j : Nat) (x : α), l[i]? = some x → j < k → (l.flatMap cells)[i * k + j]? = (cells x)[j]?
  | [], i, j, x, hx, _ => by simp at hx
  | y :: l, 0, j, x, hx, hj => by
    simp at hx
    subst hx
    rw [List.flatMap_cons, Nat.zero_mul, Nat.zero_add, List.getElem?_append_left (by rw [h]; exact hj)]
  | y :: l, i + 1, j, x, hx, hj => by
    rw [List.getElem?_cons_succ] at hx
    rw [List.flatMap_cons, List.getElem?_append_right (by rw [h, Nat.succ_mul]; omega), h]
    have e : (i + 1) * k + j - k = i * k + j := by rw [Nat.succ_mul]; omega
    rw [e]
    exact flat_get h l i j x hx hj
/-- a row of structs -/
def ER {α : Type} (t : TypeId) (k : Nat) (cells : α → List Value) (w : World) (base : Nat) (v : Value) (l : List α) : Prop := w.ownsRow base t k v l.length (l.flatMap cells)
section
variable {α : Type} {t ts : TypeId} {k bytes : Nat} {cells : α → List Value} {w w' : World} {base : Nat} {v : Value} {l : List α}
theorem ER.nil (t : TypeId) (k : Nat) (cells : α → List Value) (w : World) (base : Nat) : ER t k cells w base (.slice none 0 0) ([] : List α) := World.ownsRow_nil w base t k
theorem ER.keep (h : ER t k cells w base v l) (hb : ∀ g, v.ownBlock = some g → g < w.heap.size → w'.heap[g]? = w.heap[g]?) : ER t k cells w' base v l := by
  refine ⟨h.1, ?_⟩
  rcases h.2 with h2 | ⟨g, cap, cur, rfl, h1, h2, h3⟩
  · exact Or.inl h2
  · exact Or.inr ⟨g, cap, cur, rfl, h1, (hb g rfl (by
      rcases Nat.lt_or_ge g w.heap.size with c | c
      · exact c
      · rw [Array.getElem?_eq_none c] at h2; cases h2)).trans h2, h3⟩
theorem ER.lt (h : ER t k cells w base v l) : ∀ g, v.ownBlock = some g → base ≤ g ∧ g < w.heap.size := by
  intro g hg
  rcases h.2 with ⟨rfl, _⟩ | ⟨g', cap, cur, rfl, h1, h2, _⟩
  · simp [Value.ownBlock] at hg
  · simp [Value.ownBlock] at hg
    subst hg
    refine ⟨h1, ?_⟩
    rcases Nat.lt_or_ge g' w.heap.size with c | c
    · exact c
    · rw [Array.getElem?_eq_none c] at h2; cases h2
theorem ER.form (h : ER t k cells w base v l) : ∃ A cap, v = .slice A l.length cap := by
  rcases h.2 with ⟨rfl, h0⟩ | ⟨g, cap, cur, rfl, _⟩
  · exact ⟨none, 0, by rw [h0]⟩
  · exact ⟨_, _, rfl⟩
theorem ER.len {A : Option Addr} {m cap : Nat} (h : ER t k cells w base (.slice A m cap) l) : m = l.length := by
  obtain ⟨A', cap', e⟩ := h.form
  simp only [Value.slice.injEq] at e
  exact e.2.1
/-- what an element's cells hold -/
theorem ER.cellAt (E : ElOk t ts k bytes cells) {A : Option Addr} {m cap : Nat} (h : ER t k cells w base (.slice A m cap) l) (hl : l ≠ []) : ∃ g, A = some ⟨g, 0, none⟩ ∧ ∀ (i j : Nat) (x : α) (u : Value), l[i]? = some x → (cells x)[j]? = some u → w.cell? ⟨g, i * k + j, none⟩ = some u := by
  rcases h.2 with ⟨_, h0⟩ | ⟨g, cap', cur, e, h1, h2, h3, h4, h5, h6⟩
  · exact absurd (List.eq_nil_of_length_eq_zero h0) hl
  · simp only [Value.slice.injEq] at e
    refine ⟨g, e.1, fun i j x u hx hu => ?_⟩
    have hj : j < k := by rw [← E.len x]; exact (List.getElem?_eq_some_iff.1 hu).1
    have h7 := flat_get E.len l i j x hx hj
    rw [hu, ← h6, List.getElem?_take] at h7
    split at h7
    · rw [Array.getElem?_toList] at h7
      exact Bk.cell (t := t) h2 h7
    · cases h7
/-- append(v, src..) -/
theorem ER.append (E : ElOk t ts k bytes cells) (h : ER t k cells w base v l) (hb : base ≤ w.heap.size) (a : Addr) (c : Nat) (l2 : List α) (hl : l.length + l2.length ≤ 1000000) (hs : ∀ (i j : Nat) (x : α) (u : Value), l2[i]? = some x → (cells x)[j]? = some u → w.cell? (a.add (i * k + j)) = some u) :
    ∃ r w', (Builtin.append_ #[ts, ts] ts #[v, .slice (some a) l2.length c]).run Try.prog w = .ok r w' ∧ ER t k cells w' base r (l ++ l2) ∧ w.grownBy w' v.ownBlock := by
  obtain ⟨i, z, hi, hz, hsz, hby, hzs⟩ := E.info
  have hnews : ∀ j u, (l2.flatMap cells)[j]? = some u → w.cell? (a.add j) = some u := fun j u hj => by
    have hlt := (List.getElem?_eq_some_iff.1 hj).1
    rw [flat_len E.len] at hlt
    have hq : j / k < l2.length := Nat.div_lt_of_lt_mul (by rw [Nat.mul_comm]; exact hlt)
    have hr : j % k < k := Nat.mod_lt _ E.pos
    have e : j / k * k + j % k = j := by rw [Nat.mul_comm]; exact Nat.div_add_mod j k
    have h1 := flat_get E.len l2 (j / k) (j % k) l2[j / k] (List.getElem?_eq_getElem hq) hr
    rw [e, hj] at h1
    have := hs (j / k) (j % k) _ u (List.getElem?_eq_getElem hq) h1.symm
    rw [e] at this
    exact this
  obtain ⟨v', w', hr, ho, hg, _⟩ := run_append_own (P := Try.prog) w base ts ts t i z k bytes E.under hi hz hsz hby hzs E.pos v l.length (l.flatMap cells) h a l2.length c (l2.flatMap cells) (flat_len E.len l2) hnews
    (fun u hu => by
      obtain ⟨x, _, hx⟩ := List.mem_flatMap.1 hu
      exact E.one x u hx) (by unfold maxLen; omega) (Nat.le_trans (Nat.mul_le_mul hl E.small) (by decide)) hb
  refine ⟨v', w', hr, ?_, hg⟩
  unfold ER
  rw [List.length_append, List.flatMap_append]
  exact ho
end
section
variable {α : Type} {t ts : TypeId} {k bytes : Nat} {cells : α → List Value}
theorem ER.one (E : ElOk t ts k bytes cells) {W : World} {base : Nat} (hb : base ≤ W.heap.size) (x : α) {cs : Array Value} (hcs : cs.toList = cells x) : ER t k cells (W.alloc (.cells cs t)) base (.slice (some ⟨W.heap.size, 0, none⟩) 1 1) [x] := by
  refine ⟨?_, Or.inr ⟨W.heap.size, 1, cs, rfl, hb, Bk.new W t cs, Nat.le_refl _, by decide, ?_, ?_⟩⟩
  · rw [flat_len E.len]
  · rw [← Array.length_toList, hcs, E.len, Nat.one_mul]
  · rw [hcs, List.flatMap_cons, List.flatMap_nil, List.append_nil]
    exact List.take_of_length_le (by rw [E.len]; simp)
theorem wpList_erpush (E : ElOk t ts k bytes cells) {W : World} {base : Nat} {l : List α} {A : Option Addr} {m cap : Nat} (h : ER t k cells W base (.slice A m cap) l) (x : α) {cs : Array Value} (hcs : cs.toList = cells x) (hl : m ≤ 100000) (hb : base ≤ W.heap.size)
    {ops : Array Oper} {rest : List Oper} {o : Oper} {a : Act} {Q : Exit → Act → World → Prop} (hgd : o.guard = none) (s y : Operand)
    (ho : o.op = .call { callee := .builtin .append, args := #[s, y], argTypes := #[ts, ts] }) (hty : o.type = ts)
    (hs : a.eval s = .slice A m cap) (hx : a.eval y = .slice (some ⟨W.heap.size, 0, none⟩) 1 1)
    (hk : ∀ A' cap' W', W.grownBy W' (Value.slice A m cap).ownBlock → ER t k cells W' base (.slice A' (m + 1) cap') (l ++ [x]) →
      wpList Try.prog ops Q rest (a.put o.dst (.slice A' (m + 1) cap')) W') :
    wpList Try.prog ops Q (o :: rest) a (W.alloc (.cells cs t)) := by
  have hm : m = l.length := h.len
  have hF1 : ER t k cells (W.alloc (.cells cs t)) base (.slice A m cap) l := h.keep fun g _ hl => Below.heap_alloc W _ g hl
  obtain ⟨r, W', hr, h1, h2⟩ := hF1.append E (Nat.le_trans hb (by simp)) ⟨W.heap.size, 0, none⟩ 1 [x] (by simp; omega) (fun i j y u hi hj => by
    cases i with
    | zero =>
      simp at hi
      subst hi
      rw [add_atF]
      refine (Bk.new W t cs).cell ?_
      rw [← Array.getElem?_toList, hcs]
      rw [Nat.zero_mul, Nat.zero_add, Nat.zero_add]
      exact hj
    | succ i => simp at hi)
  obtain ⟨A', cap', e⟩ := h1.form
  rw [List.length_append, List.length_singleton, ← hm] at e
  subst e
  have hr' : (Builtin.append_ #[ts, ts] o.type #[a.eval s, a.eval y]).run Try.prog (W.alloc (.cells cs t)) = .ok (.slice A' (m + 1) cap') W' := by rw [hty, hs, hx]; exact hr
  refine wpList_append_run hgd s y _ _ ho _ hr' (hk A' cap' W' ?_ h1)
  have g0 : W.grownBy (W.alloc (.cells cs t)) (Value.slice A m cap).ownBlock := ⟨rfl, rfl, rfl, by simp, fun b hb _ => Below.heap_alloc W _ b hb⟩
  exact grown_trans g0 h2
end
section
variable {α : Type} {t ts : TypeId} {k bytes : Nat} {cells : α → List Value}
theorem erEmpty (E : ElOk t ts k bytes cells) (c : Nat) (w : World) : (Builtin.append_ #[ts, ts] ts #[.slice none 0 0, .slice none 0 c]).run Try.prog w = .ok (.slice none 0 0) w := by
  obtain ⟨i, z, hi, hz, hsz, hby, hzs⟩ := E.info
  simp [Builtin.append_, run_underlying E.under, sizeOf, typeInfo, hi, Builtin.lenOf, Builtin.firstCells]
/-- what a row to be appended holds -/
def SrcAt (k : Nat) (cells : α → List Value) (w : World) (A : Option Addr) (n : Nat) (f : Nat → α) : Prop :=
  0 < n → ∃ bl off, A = some ⟨bl, off, none⟩ ∧ ∀ (i j : Nat) (u : Value), i < n → (cells (f i))[j]? = some u → w.cell? ⟨bl, off + i * k + j, none⟩ = some u
theorem erAppend (E : ElOk t ts k bytes cells) {w : World} {base : Nat} {v : Value} {l : List α} (h : ER t k cells w base v l) (hb : base ≤ w.heap.size) {A : Option Addr} {n : Nat} (c : Nat) {f : Nat → α} (hs : SrcAt k cells w A n f) (hl : l.length + n ≤ 1000000) (hv : A = none → v = .slice none 0 0) :
    ∃ r w', (Builtin.append_ #[ts, ts] ts #[v, .slice A n c]).run Try.prog w = .ok r w' ∧ ER t k cells w' base r (l ++ (List.range n).map f) ∧ w.grownBy w' v.ownBlock := by
  cases A with
  | none =>
    obtain rfl : n = 0 := by
      rcases Nat.eq_zero_or_pos n with c | c
      · exact c
      · obtain ⟨_, _, e, _⟩ := hs c; cases e
    obtain rfl := hv rfl
    refine ⟨_, w, erEmpty E c w, ?_, World.grownBy.refl _ _⟩
    simpa using h
  | some a =>
    have e : ((List.range n).map f).length = n := by simp
    have h1 := h.append E hb a c ((List.range n).map f) (by rw [e]; exact hl) (fun i j x u hi hj => by
      rw [List.getElem?_map] at hi
      have hin : i < n := by
        rcases Nat.lt_or_ge i n with c | c
        · exact c
        · rw [List.getElem?_eq_none (by simpa using c)] at hi; cases hi
      rw [List.getElem?_range hin] at hi
      simp at hi
      subst hi
      obtain ⟨bl, off, e1, h2⟩ := hs (by omega)
      cases e1
      rw [add_atF, ← Nat.add_assoc]
      exact h2 i j u hin hj)
    rw [e] at h1
    exact h1
theorem erPush (E : ElOk t ts k bytes cells) {W : World} {base : Nat} {v : Value} {l : List α} (h : ER t k cells W base v l) (x : α) {cs : Array Value} (hcs : cs.toList = cells x) (hl : l.length ≤ 100000) (hb : base ≤ W.heap.size) :
    ∃ r W', (Builtin.append_ #[ts, ts] ts #[v, .slice (some ⟨W.heap.size, 0, none⟩) 1 1]).run Try.prog (W.alloc (.cells cs t)) = .ok r W' ∧ ER t k cells W' base r (l ++ [x]) ∧ W.grownBy W' v.ownBlock := by
  have hF1 : ER t k cells (W.alloc (.cells cs t)) base v l := h.keep fun g _ hl => Below.heap_alloc W _ g hl
  obtain ⟨r, W', hr, h1, h2⟩ := hF1.append E (Nat.le_trans hb (by simp)) ⟨W.heap.size, 0, none⟩ 1 [x] (by simp; omega) (fun i j y u hi hj => by
    cases i with
    | zero =>
      simp at hi
      subst hi
      rw [add_atF]
      refine (Bk.new W t cs).cell ?_
      rw [← Array.getElem?_toList, hcs]
      rw [Nat.zero_mul, Nat.zero_add, Nat.zero_add]
      exact hj
    | succ i => simp at hi)
  have g0 : W.grownBy (W.alloc (.cells cs t)) v.ownBlock := ⟨rfl, rfl, rfl, by simp, fun b hb _ => Below.heap_alloc W _ b hb⟩
  exact ⟨r, W', hr, h1, grown_trans g0 h2⟩
end
theorem srcTake {α : Type} {k : Nat} {cells : α → List Value} {w : World} {A : Option Addr} {n m : Nat} {f : Nat → α} (h : SrcAt k cells w A n f) (hm : m ≤ n) : SrcAt k cells w A m f := fun h0 => by
  obtain ⟨bl, off, e, h1⟩ := h (by omega)
  exact ⟨bl, off, e, fun i j u hi hj => h1 i j u (by omega) hj⟩

/-- a job's cells -/
structure JC where
  id : Nat
  A : Option Addr
  n : Nat
  c : Nat
  ov : Bool
  wl : Bool
def jobL (x : JC) : List Value := [.int .i64 (x.id : Int), .slice x.A x.n x.c, .bool x.ov, .bool x.wl]
theorem jobOk : ElOk 57 48 4 40 jobL := by
  refine ⟨Try.underlying48, ?_, by decide, by decide, fun x => rfl, fun x u hu => ?_⟩
  · obtain ⟨i, hi, hz, hs, hb⟩ := info_parts (show (Try.prog.info? 57).map (fun i => (i.zero, i.size, i.bytes)) = some (some (.agg #[.int .i64 0, .slice none 0 0, .bool false, .bool false]), 4, 40) by kernel_rfl)
    exact ⟨i, _, hi, hz, hs, hb, rfl⟩
  · simp [jobL] at hu
    rcases hu with rfl | rfl | rfl | rfl <;> rfl
def RS.jc (r : RS) (i : Nat) : JC := ⟨r.id i, r.A i, r.n i, r.c i, r.ov i, r.wl i⟩
theorem jobSrc {w : World} {A : Option Addr} {r : RS} (h : JobsIn w A r) : SrcAt 4 jobL w A r.N r.jc := fun hn => by
  obtain ⟨bl, off, e, h1⟩ := h hn
  refine ⟨bl, off, e, fun i j u hi hj => ?_⟩
  have h2 := h1 i hi
  match j, hj with
  | 0, hj => cases hj; exact h2.c0
  | 1, hj => cases hj; exact h2.c1
  | 2, hj => cases hj; exact h2.c2
  | 3, hj => cases hj; exact h2.c3
/-- one job more -/
def RS.add (r : RS) (k : Nat) (A : Option Addr) (n c : Nat) (e : Nat → Int) (b : Bool) : RS :=
  ⟨r.N + 1, upd r.id r.N k, upd r.A r.N A, upd r.n r.N n, upd r.c r.N c, upd r.e r.N e, upd r.ov r.N b, upd r.wl r.N false⟩
theorem RS.add_jc (r : RS) (k : Nat) (A : Option Addr) (n c : Nat) (e : Nat → Int) (b : Bool) : (List.range r.N).map r.jc ++ [⟨k, A, n, c, b, false⟩] = (List.range (r.add k A n c e b).N).map (r.add k A n c e b).jc := by
  show _ = (List.range (r.N + 1)).map _
  rw [List.range_succ, List.map_append]
  congr 1
  · refine List.map_congr_left fun i hi => ?_
    have hi : i < r.N := by simpa using hi
    unfold RS.jc RS.add
    simp only [upd_other _ _ (show i ≠ r.N by omega)]
  · simp [RS.jc, RS.add, upd_same]
/-- a row that was made holds the graph -/
theorem ER.jobs {w : World} {base m cap : Nat} {A : Option Addr} {r : RS} (h : ER 57 4 jobL w base (.slice A m cap) ((List.range r.N).map r.jc)) : JobsIn w A r := fun hn => by
  have hl : ((List.range r.N).map r.jc).length = r.N := by simp
  obtain ⟨g, e, hc⟩ := h.cellAt jobOk (by intro c; rw [c] at hl; simp at hl; omega)
  refine ⟨g, 0, e, fun i hi => ?_⟩
  have hx : ((List.range r.N).map r.jc)[i]? = some (r.jc i) := by rw [List.getElem?_map, List.getElem?_range hi]; rfl
  rw [Nat.zero_add]
  exact ⟨hc i 0 _ _ hx rfl, hc i 1 _ _ hx rfl, hc i 2 _ _ hx rfl, hc i 3 _ _ hx rfl⟩
end Go.Proofs.Ytecimlbdcldkdaa
