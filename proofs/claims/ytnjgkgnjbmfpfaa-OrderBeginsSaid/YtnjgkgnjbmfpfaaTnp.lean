/- Rows of structs: one made, one appended, read again; and plain: what users have, told turned. -/
import Derived.Test.YtnjgkgnjbmfpfaaErw
import Derived.Test.YtnjgkgnjbmfpfaaOup
import Derived.Test.YtnjgkgnjbmfpfaaOwh
namespace Go.Proofs.Ytnjgkgnjbmfpfaa
open Go.RowKit Go.Sort Ot

section
variable {α : Type} {t ts : TypeId} {k bytes : Nat} {cells : α → List Value}
theorem ER.one (E : ElOk t ts k bytes cells) {W : World} {base : Nat} (hb : base ≤ W.heap.size) (x : α) {cs : Array Value} (hcs : cs.toList = cells x) : ER t k cells (W.alloc (.cells cs t)) base (.slice (some ⟨W.heap.size, 0, none⟩) 1 1) [x] := by
  refine ⟨?_, Or.inr ⟨W.heap.size, 1, cs, rfl, hb, Bk.new W t cs, Nat.le_refl _, by decide, ?_, ?_⟩⟩
  · rw [flat_len E.len]
  · rw [← Array.length_toList, hcs, E.len, Nat.one_mul]
  · rw [hcs, List.flatMap_cons, List.flatMap_nil, List.append_nil]
    exact List.take_of_length_le (by rw [E.len]; simp)
theorem wpList_erpush (E : ElOk t ts k bytes cells) {W : World} {base : Nat} {l : List α} {A : Option Addr} {m cap : Nat} (h : ER t k cells W base (.slice A m cap) l) (x : α) {cs : Array Value} (hcs : cs.toList = cells x) (hl : m ≤ 100000) (hb : base ≤ W.heap.size)
    {ops : Array Oper} {rest : List Oper} {o : Oper} {a : Act} {Q : Exit → Act → World → Prop} (hgd : o.guard = none) (s y : Operand)
    (ho : o.op = .call { callee := .builtin .append, args := #[s, y], argTypes := #[ts, ts] }) (hty : o.type = ts)
    (hs : a.eval s = .slice A m cap) (hx : a.eval y = .slice (some ⟨W.heap.size, 0, none⟩) 1 1)
    (hk : ∀ A' cap' W', W.grownBy W' (Value.slice A m cap).ownBlock → ER t k cells W' base (.slice A' (m + 1) cap') (l ++ [x]) →
      wpList Try.prog ops Q rest (a.put o.dst (.slice A' (m + 1) cap')) W') :
    wpList Try.prog ops Q (o :: rest) a (W.alloc (.cells cs t)) := by
  have hm : m = l.length := h.len
  have hF1 : ER t k cells (W.alloc (.cells cs t)) base (.slice A m cap) l := h.keep fun g _ hl => Below.heap_alloc W _ g hl
  obtain ⟨r, W', hr, h1, h2⟩ := hF1.append E (Nat.le_trans hb (by simp)) ⟨W.heap.size, 0, none⟩ 1 [x] (by simp; omega) (fun i j y u hi hj => by
    cases i with
    | zero =>
      simp at hi
      subst hi
      rw [add_atF]
      refine (Bk.new W t cs).cell ?_
      rw [← Array.getElem?_toList, hcs]
      rw [Nat.zero_mul, Nat.zero_add, Nat.zero_add]
      exact hj
    | succ i => simp at hi)
  obtain ⟨A', cap', e⟩ := h1.form
  rw [List.length_append, List.length_singleton, ← hm] at e
  subst e
  have hr' : (Builtin.append_ #[ts, ts] o.type #[a.eval s, a.eval y]).run Try.prog (W.alloc (.cells cs t)) = .ok (.slice A' (m + 1) cap') W' := by rw [hty, hs, hx]; exact hr
  refine wpList_append_run hgd s y _ _ ho _ hr' (hk A' cap' W' ?_ h1)
  have g0 : W.grownBy (W.alloc (.cells cs t)) (Value.slice A m cap).ownBlock := ⟨rfl, rfl, rfl, by simp, fun b hb _ => Below.heap_alloc W _ b hb⟩
  exact grown_trans g0 h2
end
def OkU (x : UD) : Prop := x.user.length ≤ maxLen ∧ ∀ i, In64 (x.has i)
def OkW (x : JD) : Prop := In64 x.id ∧ x.user.length ≤ maxLen ∧ In64 x.prio ∧ ∀ i, In64 (x.need i)
theorem ER.uses {w : World} {base m cap : Nat} {A : Option Addr} {l : List UD} (h : ER 54 5 useL w base (.slice A m cap) l) (ho : ∀ x, x ∈ l → OkU x) : UsesIn w A m (fun q => l.getD q default) := fun hm => by
  have hl := h.len
  obtain ⟨g, e, hc⟩ := h.cellAt useOk (by intro c; rw [c] at hl; simp at hl; omega)
  refine ⟨g, 0, e, fun i hi => ?_⟩
  have hx : l[i]? = some l[i] := List.getElem?_eq_getElem (by omega)
  have hd : l.getD i default = l[i] := by rw [List.getD_eq_getElem?_getD, hx]; rfl
  have ho' := ho l[i] (List.getElem_mem (by omega))
  show UseAt w g (0 + i * 5) (l.getD i default)
  rw [hd, Nat.zero_add]
  exact ⟨hc i 0 _ _ hx rfl, hc i 1 _ _ hx rfl, hc i 2 _ _ hx rfl, hc i 3 _ _ hx rfl, hc i 4 _ _ hx rfl, ho'.1, ho'.2⟩
theorem ER.wants {w : World} {base m cap : Nat} {A : Option Addr} {l : List JD} (h : ER 50 7 wantL w base (.slice A m cap) l) (ho : ∀ x, x ∈ l → OkW x) : WantsIn w A m (fun q => l.getD q default) := fun hm => by
  have hl := h.len
  obtain ⟨g, e, hc⟩ := h.cellAt wantOk (by intro c; rw [c] at hl; simp at hl; omega)
  refine ⟨g, 0, e, fun i hi => ?_⟩
  have hx : l[i]? = some l[i] := List.getElem?_eq_getElem (by omega)
  have hd : l.getD i default = l[i] := by rw [List.getD_eq_getElem?_getD, hx]; rfl
  have ho' := ho l[i] (List.getElem_mem (by omega))
  show WantAt w g (0 + i * 7) (l.getD i default)
  rw [hd, Nat.zero_add]
  exact ⟨hc i 0 _ _ hx rfl, hc i 1 _ _ hx rfl, hc i 2 _ _ hx rfl, hc i 3 _ _ hx rfl, hc i 4 _ _ hx rfl, hc i 5 _ _ hx rfl, hc i 6 _ _ hx rfl, ho'.1, ho'.2.1, ho'.2.2.1, ho'.2.2.2⟩

/-- who has no job -/
def nob : Str := [110, 111, 98, 111, 100, 121, 32, 119, 104, 111, 32, 104, 97, 115, 32, 97, 32, 106, 111, 98, 32, 104, 101, 114, 101]
structure Tn (h : Nat → UD) (nh q : Nat) (l : List UD) : Prop where
  len : l.length = 1 + 2 * (nh - q)
  first : ∃ t, l = ⟨nob, v4 7 7 7 7⟩ :: t
  ok : ∀ x, x ∈ l → OkU x
  sum : ∀ u, u ≠ nob → ∀ i, sumL u i l + sumF u h i q = sumF u h i nh
theorem Tn.start (h : Nat → UD) (nh : Nat) : Tn h nh nh [⟨nob, v4 7 7 7 7⟩] :=
  ⟨by simp, ⟨[], rfl⟩, fun x hx => by simp at hx; subst hx; exact ⟨of_decide_eq_true (by kernel_rfl), v4_in _ _ _ _ (by decide)⟩, fun u hu i => by
    show Ot.part u ⟨nob, v4 7 7 7 7⟩ i + 0 + _ = _
    unfold Ot.part
    rw [if_neg (fun c => hu c.symm)]
    omega⟩
theorem clip3 (i : Nat) : clip (v4 0 (-3) 0 0 i) = 0 := by
  have h : v4 0 (-3) 0 0 i = 0 ∨ v4 0 (-3) 0 0 i = -3 := by
    unfold v4 Shr.four
    split <;> simp
  unfold clip most
  omega
theorem part3 (u v : Str) (i : Nat) : Ot.part u ⟨v, v4 0 (-3) 0 0⟩ i = 0 := by
  unfold Ot.part
  split
  · exact clip3 i
  · rfl
theorem Tn.step {h : Nat → UD} {nh q : Nat} {l : List UD} (hq : q + 1 ≤ nh) (T : Tn h nh (q + 1) l) (ho : OkU (h q)) : Tn h nh q ((l ++ [h q]) ++ [⟨(h q).user, v4 0 (-3) 0 0⟩]) := by
  refine ⟨?_, ?_, fun x hx => ?_, fun u hu i => ?_⟩
  · rw [List.length_append, List.length_append, T.len]
    simp only [List.length_singleton]
    omega
  · obtain ⟨t, rfl⟩ := T.first
    exact ⟨_, by rw [List.cons_append, List.cons_append]⟩
  · rcases List.mem_append.1 hx with c | c
    · rcases List.mem_append.1 c with c | c
      · exact T.ok x c
      · simp at c; rw [c]; exact ho
    · simp at c; rw [c]; exact ⟨ho.1, v4_in _ _ _ _ (by decide)⟩
  · have h1 := T.sum u hu i
    rw [sumL_append, sumL_append]
    show _ + (Ot.part u (h q) i + 0) + (Ot.part u ⟨(h q).user, v4 0 (-3) 0 0⟩ i + 0) + _ = _
    rw [part3]
    have h2 : sumF u h i (q + 1) = sumF u h i q + Ot.part u (h q) i := rfl
    omega
theorem Tn.turns {h : Nat → UD} {nh n m : Nat} {wh : Nat → Int} {js : Nat → JD} {l : List UD} {l' : List Nat} (T : Tn h nh 0 l) (hm : m = l.length) (hn : ∀ j, j < n → (js j).user ≠ nob) (ht : Turns ⟨wh, m, fun q => l.getD q default, n, js⟩ l') : Turns ⟨wh, nh, h, n, js⟩ l' := by
  have key : ∀ j, j < n → hasB (js j).user (fun q => l.getD q default) m = hasB (js j).user h nh := fun j hj => by
    rw [hm, hasB_list]
    funext i
    rw [hasB_sum, ← T.sum _ (hn j hj) i]
    have h0 : sumF (js j).user h i 0 = 0 := rfl
    rw [h0, Int.add_zero]
  exact ⟨ht.1, Told.congr (P := ⟨wh, m, fun q => l.getD q default, n, js⟩) (P' := ⟨wh, nh, h, n, js⟩) rfl rfl rfl key ht.2⟩
end Go.Proofs.Ytnjgkgnjbmfpfaa
