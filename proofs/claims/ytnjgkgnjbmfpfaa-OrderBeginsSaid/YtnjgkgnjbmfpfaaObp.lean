/- Rows appended whole: what users have and one more; the jobs but one. -/
import Derived.Test.YtnjgkgnjbmfpfaaTnp
namespace Go.Proofs.Ytnjgkgnjbmfpfaa
open Go.RowKit Go.Sort Ot

section
variable {α : Type} {t ts : TypeId} {k bytes : Nat} {cells : α → List Value}
theorem erEmpty (E : ElOk t ts k bytes cells) (c : Nat) (w : World) : (Builtin.append_ #[ts, ts] ts #[.slice none 0 0, .slice none 0 c]).run Try.prog w = .ok (.slice none 0 0) w := by
  obtain ⟨i, z, hi, hz, hsz, hby, hzs⟩ := E.info
  simp [Builtin.append_, run_underlying E.under, sizeOf, typeInfo, hi, Builtin.lenOf, Builtin.firstCells]
/-- what a row to be appended holds -/
def SrcAt (k : Nat) (cells : α → List Value) (w : World) (A : Option Addr) (n : Nat) (f : Nat → α) : Prop :=
  0 < n → ∃ bl off, A = some ⟨bl, off, none⟩ ∧ ∀ (i j : Nat) (u : Value), i < n → (cells (f i))[j]? = some u → w.cell? ⟨bl, off + i * k + j, none⟩ = some u
theorem erAppend (E : ElOk t ts k bytes cells) {w : World} {base : Nat} {v : Value} {l : List α} (h : ER t k cells w base v l) (hb : base ≤ w.heap.size) {A : Option Addr} {n : Nat} (c : Nat) {f : Nat → α} (hs : SrcAt k cells w A n f) (hl : l.length + n ≤ 1000000) (hv : A = none → v = .slice none 0 0) :
    ∃ r w', (Builtin.append_ #[ts, ts] ts #[v, .slice A n c]).run Try.prog w = .ok r w' ∧ ER t k cells w' base r (l ++ (List.range n).map f) ∧ w.grownBy w' v.ownBlock := by
  cases A with
  | none =>
    obtain rfl : n = 0 := by
      rcases Nat.eq_zero_or_pos n with c | c
      · exact c
      · obtain ⟨_, _, e, _⟩ := hs c; cases e
    obtain rfl := hv rfl
    refine ⟨_, w, erEmpty E c w, ?_, World.grownBy.refl _ _⟩
    simpa using h
  | some a =>
    have e : ((List.range n).map f).length = n := by simp
    have h1 := h.append E hb a c ((List.range n).map f) (by rw [e]; exact hl) (fun i j x u hi hj => by
      rw [List.getElem?_map] at hi
      have hin : i < n := by
        rcases Nat.lt_or_ge i n with c | c
        · exact c
        · rw [List.getElem?_eq_none (by simpa using c)] at hi; cases hi
      rw [List.getElem?_range hin] at hi
      simp at hi
      subst hi
      obtain ⟨bl, off, e1, h2⟩ := hs (by omega)
      cases e1
      rw [add_atF, ← Nat.add_assoc]
      exact h2 i j u hin hj)
    rw [e] at h1
    exact h1
theorem erPush (E : ElOk t ts k bytes cells) {W : World} {base : Nat} {v : Value} {l : List α} (h : ER t k cells W base v l) (x : α) {cs : Array Value} (hcs : cs.toList = cells x) (hl : l.length ≤ 100000) (hb : base ≤ W.heap.size) :
    ∃ r W', (Builtin.append_ #[ts, ts] ts #[v, .slice (some ⟨W.heap.size, 0, none⟩) 1 1]).run Try.prog (W.alloc (.cells cs t)) = .ok r W' ∧ ER t k cells W' base r (l ++ [x]) ∧ W.grownBy W' v.ownBlock := by
  have hF1 : ER t k cells (W.alloc (.cells cs t)) base v l := h.keep fun g _ hl => Below.heap_alloc W _ g hl
  obtain ⟨r, W', hr, h1, h2⟩ := hF1.append E (Nat.le_trans hb (by simp)) ⟨W.heap.size, 0, none⟩ 1 [x] (by simp; omega) (fun i j y u hi hj => by
    cases i with
    | zero =>
      simp at hi
      subst hi
      rw [add_atF]
      refine (Bk.new W t cs).cell ?_
      rw [← Array.getElem?_toList, hcs]
      rw [Nat.zero_mul, Nat.zero_add, Nat.zero_add]
      exact hj
    | succ i => simp at hi)
  have g0 : W.grownBy (W.alloc (.cells cs t)) v.ownBlock := ⟨rfl, rfl, rfl, by simp, fun b hb _ => Below.heap_alloc W _ b hb⟩
  exact ⟨r, W', hr, h1, grown_trans g0 h2⟩
end
theorem useSrc {w : World} {A : Option Addr} {n : Nat} {f : Nat → UD} (h : UsesIn w A n f) : SrcAt 5 useL w A n f := fun hn => by
  obtain ⟨bl, off, e, h1⟩ := h hn
  refine ⟨bl, off, e, fun i j u hi hj => ?_⟩
  have h2 := h1 i hi
  match j, hj with
  | 0, hj => cases hj; exact h2.c0
  | 1, hj => cases hj; exact h2.c1
  | 2, hj => cases hj; exact h2.c2
  | 3, hj => cases hj; exact h2.c3
  | 4, hj => cases hj; exact h2.c4
theorem wantSrc {w : World} {A : Option Addr} {n : Nat} {f : Nat → JD} (h : WantsIn w A n f) : SrcAt 7 wantL w A n f := fun hn => by
  obtain ⟨bl, off, e, h1⟩ := h hn
  refine ⟨bl, off, e, fun i j u hi hj => ?_⟩
  have h2 := h1 i hi
  match j, hj with
  | 0, hj => cases hj; exact h2.c0
  | 1, hj => cases hj; exact h2.c1
  | 2, hj => cases hj; exact h2.c2
  | 3, hj => cases hj; exact h2.c3
  | 4, hj => cases hj; exact h2.c4
  | 5, hj => cases hj; exact h2.c5
  | 6, hj => cases hj; exact h2.c6
theorem srcTake {α : Type} {k : Nat} {cells : α → List Value} {w : World} {A : Option Addr} {n m : Nat} {f : Nat → α} (h : SrcAt k cells w A n f) (hm : m ≤ n) : SrcAt k cells w A m f := fun h0 => by
  obtain ⟨bl, off, e, h1⟩ := h (by omega)
  exact ⟨bl, off, e, fun i j u hi hj => h1 i j u (by omega) hj⟩
theorem srcDrop {α : Type} {k : Nat} {cells : α → List Value} {w : World} {bl off n c q : Nat} {f : Nat → α} (h : SrcAt k cells w (some ⟨bl, off, none⟩) n f) (hc : n ≤ c) (hq : q ≤ n) : SrcAt k cells w (if c = q then some ⟨bl, off, none⟩ else some ⟨bl, off + q * k, none⟩) (n - q) (fun j => f (q + j)) := fun h0 => by
  obtain ⟨bl', off', e, h1⟩ := h (by omega)
  cases e
  rw [if_neg (by omega)]
  refine ⟨bl, off + q * k, rfl, fun i j u hi hj => ?_⟩
  have := h1 (q + i) j u (by omega) hj
  rw [Nat.add_mul, ← Nat.add_assoc off] at this
  exact this
theorem UsesIn.congr {w : World} {A : Option Addr} {n : Nat} {f g : Nat → UD} (h : UsesIn w A n f) (he : ∀ i, i < n → f i = g i) : UsesIn w A n g := fun hn => by
  obtain ⟨bl, off, e, h1⟩ := h hn
  exact ⟨bl, off, e, fun i hi => by rw [← he i hi]; exact h1 i hi⟩
theorem WantsIn.congr {w : World} {A : Option Addr} {n : Nat} {f g : Nat → JD} (h : WantsIn w A n f) (he : ∀ i, i < n → f i = g i) : WantsIn w A n g := fun hn => by
  obtain ⟨bl, off, e, h1⟩ := h hn
  exact ⟨bl, off, e, fun i hi => by rw [← he i hi]; exact h1 i hi⟩
theorem UsesIn.ok {w : World} {A : Option Addr} {n : Nat} {f : Nat → UD} (h : UsesIn w A n f) {i : Nat} (hi : i < n) : OkU (f i) := by
  obtain ⟨bl, off, e, h1⟩ := h (by omega)
  exact ⟨(h1 i hi).b0, (h1 i hi).b1⟩
theorem WantsIn.ok {w : World} {A : Option Addr} {n : Nat} {f : Nat → JD} (h : WantsIn w A n f) {i : Nat} (hi : i < n) : OkW (f i) := by
  obtain ⟨bl, off, e, h1⟩ := h (by omega)
  exact ⟨(h1 i hi).b0, (h1 i hi).b1, (h1 i hi).b2, (h1 i hi).b3⟩
/-- what users have, and one more -/
def moreF (nh : Nat) (h : Nat → UD) (x : UD) : Nat → UD := fun q => if q < nh then h q else x
theorem more_uses {w : World} {base m cap : Nat} {A : Option Addr} {nh : Nat} {h : Nat → UD} {x : UD} (hE : ER 54 5 useL w base (.slice A m cap) ((List.range nh).map h ++ [x])) (ho : ∀ q, q < nh → OkU (h q)) (hx : OkU x) : UsesIn w A (nh + 1) (moreF nh h x) := by
  have hm := hE.len
  rw [List.length_append, List.length_map, List.length_range, List.length_singleton] at hm
  subst hm
  refine (hE.uses fun y hy => ?_).congr fun i hi => ?_
  · rcases List.mem_append.1 hy with c | c
    · obtain ⟨q, hq, rfl⟩ := List.mem_map.1 c
      exact ho q (by simpa using hq)
    · simp at c; rw [c]; exact hx
  · rw [List.getD_eq_getElem?_getD]
    unfold moreF
    by_cases c : i < nh
    · rw [if_pos c, List.getElem?_append_left (by simpa using c), List.getElem?_map, List.getElem?_range c]; rfl
    · rw [if_neg c, List.getElem?_append_right (by simp; omega)]
      obtain rfl : i = nh := by omega
      simp
theorem rest_wants {w : World} {base m cap : Nat} {A : Option Addr} {n k : Nat} (hk : k < n) {js : Nat → JD} (hE : ER 50 7 wantL w base (.slice A m cap) ((List.range k).map js ++ (List.range (n - (k + 1))).map fun j => js (k + 1 + j))) (ho : ∀ q, q < n → OkW (js q)) : WantsIn w A (n - 1) (fun j => js (sh k j)) := by
  have hm := hE.len
  rw [List.length_append, List.length_map, List.length_map, List.length_range, List.length_range] at hm
  obtain rfl : m = n - 1 := by omega
  refine (hE.wants fun y hy => ?_).congr fun i hi => ?_
  · rcases List.mem_append.1 hy with c | c
    · obtain ⟨q, hq, rfl⟩ := List.mem_map.1 c
      exact ho q (by simp at hq; omega)
    · obtain ⟨q, hq, rfl⟩ := List.mem_map.1 c
      exact ho _ (by simp at hq; omega)
  · rw [List.getD_eq_getElem?_getD]
    unfold sh
    by_cases c : i < k
    · rw [if_pos c, List.getElem?_append_left (by simpa using c), List.getElem?_map, List.getElem?_range c]; rfl
    · rw [if_neg c, List.getElem?_append_right (by simp; omega), List.length_map, List.length_range, List.getElem?_map, List.getElem?_range (by omega)]
      show js _ = js _
      congr 1
      omega
/-- the first turn, and the turns of the rest -/
theorem begins {P : Par} {k : Nat} {t m : List Nat} (hl : Turns P (k :: t)) (hm : Turns (restP P k) m) : t = m.map (sh k) := by
  have hk : Ot.Next P [] k := hl.2 0 k rfl
  have h1 := told_rest hk hm.2
  have hk2 := hk.1
  have h2 : m.length = P.n - 1 := hm.1
  have h3 : (k :: t).length = P.n := hl.1
  have h4 := hl.2.unique h1 (by rw [h3, List.length_cons, List.length_map, h2]; omega)
  simp only [List.cons.injEq, true_and] at h4
  exact h4
end Go.Proofs.Ytnjgkgnjbmfpfaa
