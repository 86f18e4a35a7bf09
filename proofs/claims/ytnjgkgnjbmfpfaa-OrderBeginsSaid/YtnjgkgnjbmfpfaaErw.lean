/- Rows of structs in blocks of their own: append. -/
import Derived.Test.YtnjgkgnjbmfpfaaUsr
namespace Go.Proofs.Ytnjgkgnjbmfpfaa
open Go.RowKit Go.Sort Ot

/-- a kind of element: its type, its slice's, its cells -/
structure ElOk {α : Type} (t ts : TypeId) (k bytes : Nat) (cells : α → List Value) : Prop where
  under : Try.prog.underlying ts = some (.slice t)
  info : ∃ i z, Try.prog.info? t = some i ∧ i.zero = some z ∧ i.size = k ∧ i.bytes = bytes ∧ z.cells.size = k
  pos : 0 < k
  small : bytes ≤ 1000
  len : ∀ x, (cells x).length = k
  one : ∀ x, ∀ u ∈ cells x, u.oneCell' = true
theorem flat_len {α : Type} {cells : α → List Value} {k : Nat} (h : ∀ x, (cells x).length = k) : ∀ l : List α, (l.flatMap cells).length = l.length * k
  | [] => by simp
  | x :: l => by rw [List.flatMap_cons, List.length_append, h x, flat_len h l, List.length_cons, Nat.succ_mul, Nat.add_comm]
theorem flat_get {α : Type} {cells : α → List Value} {k : Nat} (h : ∀ x, (cells x).length = k) : ∀ (l : List α) (i j : Nat) (x : α), l[i]? = some x → j < k → (l.flatMap cells)[i * k + j]? = (cells x)[j]?
  | [], i, j, x, hx, _ => by simp at hx
  | y :: l, 0, j, x, hx, hj => by
    simp at hx
    subst hx
    rw [List.flatMap_cons, Nat.zero_mul, Nat.zero_add, List.getElem?_append_left (by rw [h]; exact hj)]
  | y :: l, i + 1, j, x, hx, hj => by
    rw [List.getElem?_cons_succ] at hx
    rw [List.flatMap_cons, List.getElem?_append_right (by rw [h, Nat.succ_mul]; omega), h]
    have e : (i + 1) * k + j - k = i * k + j := by rw [Nat.succ_mul]; omega
    rw [e]
    exact flat_get h l i j x hx hj
/-- a row of structs -/
def ER {α : Type} (t : TypeId) (k : Nat) (cells : α → List Value) (w : World) (base : Nat) (v : Value) (l : List α) : Prop := w.ownsRow base t k v l.length (l.flatMap cells)
section
variable {α : Type} {t ts : TypeId} {k bytes : Nat} {cells : α → List Value} {w w' : World} {base : Nat} {v : Value} {l : List α}
theorem ER.nil (t : TypeId) (k : Nat) (cells : α → List Value) (w : World) (base : Nat) : ER t k cells w base (.slice none 0 0) ([] : List α) := World.ownsRow_nil w base t k
theorem ER.keep (h : ER t k cells w base v l) (hb : ∀ g, v.ownBlock = some g → g < w.heap.size → w'.heap[g]? = w.heap[g]?) : ER t k cells w' base v l := by
  refine ⟨h.1, ?_⟩
  rcases h.2 with h2 | ⟨g, cap, cur, rfl, h1, h2, h3⟩
  · exact Or.inl h2
  · exact Or.inr ⟨g, cap, cur, rfl, h1, (hb g rfl (by
      rcases Nat.lt_or_ge g w.heap.size with c | c
      · exact c
      · rw [Array.getElem?_eq_none c] at h2; cases h2)).trans h2, h3⟩
theorem ER.lt (h : ER t k cells w base v l) : ∀ g, v.ownBlock = some g → base ≤ g ∧ g < w.heap.size := by
  intro g hg
  rcases h.2 with ⟨rfl, _⟩ | ⟨g', cap, cur, rfl, h1, h2, _⟩
  · simp [Value.ownBlock] at hg
  · simp [Value.ownBlock] at hg
    subst hg
    refine ⟨h1, ?_⟩
    rcases Nat.lt_or_ge g' w.heap.size with c | c
    · exact c
    · rw [Array.getElem?_eq_none c] at h2; cases h2
theorem ER.form (h : ER t k cells w base v l) : ∃ A cap, v = .slice A l.length cap := by
  rcases h.2 with ⟨rfl, h0⟩ | ⟨g, cap, cur, rfl, _⟩
  · exact ⟨none, 0, by rw [h0]⟩
  · exact ⟨_, _, rfl⟩
theorem ER.len {A : Option Addr} {m cap : Nat} (h : ER t k cells w base (.slice A m cap) l) : m = l.length := by
  obtain ⟨A', cap', e⟩ := h.form
  simp only [Value.slice.injEq] at e
  exact e.2.1
/-- what an element's cells hold -/
theorem ER.cellAt (E : ElOk t ts k bytes cells) {A : Option Addr} {m cap : Nat} (h : ER t k cells w base (.slice A m cap) l) (hl : l ≠ []) : ∃ g, A = some ⟨g, 0, none⟩ ∧ ∀ (i j : Nat) (x : α) (u : Value), l[i]? = some x → (cells x)[j]? = some u → w.cell? ⟨g, i * k + j, none⟩ = some u := by
  rcases h.2 with ⟨_, h0⟩ | ⟨g, cap', cur, e, h1, h2, h3, h4, h5, h6⟩
  · exact absurd (List.eq_nil_of_length_eq_zero h0) hl
  · simp only [Value.slice.injEq] at e
    refine ⟨g, e.1, fun i j x u hx hu => ?_⟩
    have hj : j < k := by rw [← E.len x]; exact (List.getElem?_eq_some_iff.1 hu).1
    have h7 := flat_get E.len l i j x hx hj
    rw [hu, ← h6, List.getElem?_take] at h7
    split at h7
    · rw [Array.getElem?_toList] at h7
      exact Bk.cell (t := t) h2 h7
    · cases h7
/-- append(v, src..) -/
theorem ER.append (E : ElOk t ts k bytes cells) (h : ER t k cells w base v l) (hb : base ≤ w.heap.size) (a : Addr) (c : Nat) (l2 : List α) (hl : l.length + l2.length ≤ 1000000) (hs : ∀ (i j : Nat) (x : α) (u : Value), l2[i]? = some x → (cells x)[j]? = some u → w.cell? (a.add (i * k + j)) = some u) :
    ∃ r w', (Builtin.append_ #[ts, ts] ts #[v, .slice (some a) l2.length c]).run Try.prog w = .ok r w' ∧ ER t k cells w' base r (l ++ l2) ∧ w.grownBy w' v.ownBlock := by
  obtain ⟨i, z, hi, hz, hsz, hby, hzs⟩ := E.info
  have hnews : ∀ j u, (l2.flatMap cells)[j]? = some u → w.cell? (a.add j) = some u := fun j u hj => by
    have hlt := (List.getElem?_eq_some_iff.1 hj).1
    rw [flat_len E.len] at hlt
    have hq : j / k < l2.length := Nat.div_lt_of_lt_mul (by rw [Nat.mul_comm]; exact hlt)
    have hr : j % k < k := Nat.mod_lt _ E.pos
    have e : j / k * k + j % k = j := by rw [Nat.mul_comm]; exact Nat.div_add_mod j k
    have h1 := flat_get E.len l2 (j / k) (j % k) l2[j / k] (List.getElem?_eq_getElem hq) hr
    rw [e, hj] at h1
    have := hs (j / k) (j % k) _ u (List.getElem?_eq_getElem hq) h1.symm
    rw [e] at this
    exact this
  obtain ⟨v', w', hr, ho, hg, _⟩ := run_append_own (P := Try.prog) w base ts ts t i z k bytes E.under hi hz hsz hby hzs E.pos v l.length (l.flatMap cells) h a l2.length c (l2.flatMap cells) (flat_len E.len l2) hnews
    (fun u hu => by
      obtain ⟨x, _, hx⟩ := List.mem_flatMap.1 hu
      exact E.one x u hx) (by unfold maxLen; omega) (Nat.le_trans (Nat.mul_le_mul hl E.small) (by decide)) hb
  refine ⟨v', w', hr, ?_, hg⟩
  unfold ER
  rw [List.length_append, List.flatMap_append]
  exact ho
end
def useL (j : UD) : List Value := [encStr j.user, .int .i64 (j.has 0), .int .i64 (j.has 1), .int .i64 (j.has 2), .int .i64 (j.has 3)]
def wantL (j : JD) : List Value := [.int .i64 j.id, encStr j.user, .int .i64 j.prio, .int .i64 (j.need 0), .int .i64 (j.need 1), .int .i64 (j.need 2), .int .i64 (j.need 3)]
theorem useOk : ElOk 54 45 5 48 useL := by
  refine ⟨Try.underlying45, ?_, by decide, by decide, fun x => rfl, fun x u hu => ?_⟩
  · obtain ⟨i, hi, hz, hs, hb⟩ := info_parts (show (Try.prog.info? 54).map (fun i => (i.zero, i.size, i.bytes)) = some (some (.agg #[.string ⟨#[]⟩, .int .i64 0, .int .i64 0, .int .i64 0, .int .i64 0]), 5, 48) by kernel_rfl)
    exact ⟨i, _, hi, hz, hs, hb, rfl⟩
  · simp [useL] at hu
    rcases hu with rfl | rfl | rfl | rfl | rfl <;> rfl
theorem wantOk : ElOk 50 46 7 64 wantL := by
  refine ⟨Try.underlying46, ?_, by decide, by decide, fun x => rfl, fun x u hu => ?_⟩
  · obtain ⟨i, hi, hz, hs, hb⟩ := info_parts (show (Try.prog.info? 50).map (fun i => (i.zero, i.size, i.bytes)) = some (some (.agg #[.int .i64 0, .string ⟨#[]⟩, .int .i64 0, .int .i64 0, .int .i64 0, .int .i64 0, .int .i64 0]), 7, 64) by kernel_rfl)
    exact ⟨i, _, hi, hz, hs, hb, rfl⟩
  · simp [wantL] at hu
    rcases hu with rfl | rfl | rfl | rfl | rfl | rfl | rfl <;> rfl
end Go.Proofs.Ytnjgkgnjbmfpfaa
