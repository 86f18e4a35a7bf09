/- Plain: a row has no order just if one of its places can be reached from itself. No program in sight. -/
import Derived.Test.YtecimlbdcldkdaaOrdP
namespace Go.Proofs.Ytecimlbdcldkdaa.Dep
/-- does the place i wait for k, through at most so many steps -/
def reachB (n : Nat) (a : Nat → List Int) (k : Nat) : Nat → Nat → Bool
  | 0, _ => false
  | s + 1, i => (a i).any fun x => (x == (k : Int)) || ((decide (0 ≤ x) && decide (x < (n : Int)) && !(x == (i : Int))) && reachB n a k s x.toNat)

/-- each place of o behind those for which it waits -/
structure So (n : Nat) (a : Nat → List Int) (o : List Nat) : Prop where
  nd : o.Nodup
  lt : ∀ k ∈ o, k < n
  be : ∀ p i q, o = p ++ i :: q → ∀ t ∈ tg n (a i), t ∈ p
theorem So.nil (n : Nat) (a : Nat → List Int) : So n a [] := ⟨List.nodup_nil, fun k hk => (by cases hk), fun p i q h => by simp at h⟩
theorem wt_zero {n : Nat} {a : Nat → List Int} {o : List Nat} {i : Nat} (h : wt n a o i = 0) : ∀ t ∈ tg n (a i), t ∈ o := by
  intro t ht
  unfold wt at h
  rw [List.countP_eq_zero] at h
  have := h t ht
  simpa using this
theorem So.snoc {n : Nat} {a : Nat → List Int} {o : List Nat} {i : Nat} (h : So n a o) (b : Best n a o (some i)) : So n a (o ++ [i]) := by
  refine ⟨?_, fun k hk => ?_, fun p j q e t ht => ?_⟩
  · rw [List.nodup_append]
    refine ⟨h.nd, by simp, fun x hx y hy e => ?_⟩
    simp at hy
    rw [e, hy] at hx
    exact b.2.1 hx
  · rcases List.mem_append.1 hk with c | c
    · exact h.lt k c
    · simp at c; rw [c]; exact b.1
  · rcases List.append_eq_append_iff.1 e with ⟨r, e1, e2⟩ | ⟨r, e1, e2⟩
    · cases r with
      | nil =>
        simp at e2
        obtain ⟨rfl, _⟩ := e2
        simp at e1
        rw [e1]
        exact wt_zero b.2.2.1 t ht
      | cons x r =>
        simp at e2
    · cases r with
      | nil =>
        simp at e2
        obtain ⟨rfl, _⟩ := e2
        simp at e1
        rw [← e1]
        exact wt_zero b.2.2.1 t ht
      | cons x r =>
        simp at e2
        obtain ⟨rfl, _⟩ := e2
        exact h.be p j r e1 t ht
theorem Run.so {n : Nat} {a : Nat → List Int} {o r : List Nat} {f : Bool} (k : Run n a o r f) : So n a o → So n a r := by
  induction k with
  | full o ho => exact id
  | stuck o ho b => exact id
  | more o i r f ho b _ ih => exact fun h => ih (h.snoc b)
theorem Run.full_len {n : Nat} {a : Nat → List Int} {o r : List Nat} {f : Bool} (k : Run n a o r f) : f = true → n ≤ r.length := by
  induction k with
  | full o ho => exact fun _ => by omega
  | stuck o ho b => exact fun h => by cases h
  | more o i r f ho b _ ih => exact ih
theorem Run.stuck_best {n : Nat} {a : Nat → List Int} {o r : List Nat} {f : Bool} (k : Run n a o r f) : f = false → r.length < n ∧ Best n a r none := by
  induction k with
  | full o ho => exact fun h => by cases h
  | stuck o ho b => exact fun _ => ⟨ho, b⟩
  | more o i r f ho b _ ih => exact ih
theorem split_unique {p p' q q' : List Nat} {i : Nat} (hn : (p ++ i :: q).Nodup) (h : p ++ i :: q = p' ++ i :: q') : p = p' := by
  rcases List.append_eq_append_iff.1 h with ⟨r, e1, e2⟩ | ⟨r, e1, e2⟩
  · cases r with
    | nil => simpa using e1.symm
    | cons x r =>
      simp at e2
      obtain ⟨rfl, e2⟩ := e2
      exfalso
      rw [List.nodup_append, List.nodup_cons] at hn
      exact hn.2.1.1 (by rw [e2]; simp)
  · cases r with
    | nil => simpa using e1
    | cons x r =>
      simp at e2
      obtain ⟨rfl, e2⟩ := e2
      exfalso
      rw [h, List.nodup_append, List.nodup_cons] at hn
      exact hn.2.1.1 (by rw [e2]; simp)
theorem So.reach {n : Nat} {a : Nat → List Int} {o : List Nat} (h : So n a o) (hall : ∀ k, k < n → k ∈ o) {k : Nat} (hk : k < n) : ∀ (s i : Nat), reachB n a k s i = true → ∀ p q, o = p ++ i :: q → k ∈ p
  | 0, i, hr, _, _, _ => by simp [reachB] at hr
  | s + 1, i, hr, p, q, e => by
    unfold reachB at hr
    rw [List.any_eq_true] at hr
    obtain ⟨x, hx, hc⟩ := hr
    rw [Bool.or_eq_true] at hc
    rcases hc with hc | hc
    · have : x = (k : Int) := by simpa using hc
      subst this
      exact h.be p i q e k (tg_mem.2 ⟨hk, hx⟩)
    · rw [Bool.and_eq_true, Bool.and_eq_true, Bool.and_eq_true] at hc
      obtain ⟨⟨⟨c1, c2⟩, _⟩, c4⟩ := hc
      have c1 : 0 ≤ x := by simpa using c1
      have c2 : x < (n : Int) := by simpa using c2
      obtain ⟨t, rfl⟩ := Int.eq_ofNat_of_zero_le c1
      rw [Int.toNat_natCast] at c4
      have ht := h.be p i q e t (tg_mem.2 ⟨by omega, hx⟩)
      obtain ⟨u, v, hu⟩ := List.append_of_mem ht
      have h2 := So.reach h hall hk s t c4 u (v ++ i :: q) (by rw [e, hu]; simp)
      rw [hu]
      exact List.mem_append_left _ h2

/-- going on along a successor -/
def iter (g : Nat → Nat) : Nat → Nat → Nat
  | 0, x => x
  | j + 1, x => g (iter g j x)
theorem iter_add (g : Nat → Nat) (i j x : Nat) : iter g (i + j) x = iter g i (iter g j x) := by
  induction i with
  | zero => rw [Nat.zero_add]; rfl
  | succ i ih => rw [Nat.succ_add]; show g (iter g (i + j) x) = g _; rw [ih]
/-- among more than n numbers below n two are the same -/
theorem pigeon {n : Nat} {f : Nat → Nat} (h : ∀ j, j ≤ n → f j < n) : ∃ p q, p < q ∧ q ≤ n ∧ f p = f q := by
  refine Classical.byContradiction fun hc => ?_
  have hnd : ((List.range (n + 1)).map f).Nodup := by
    unfold List.Nodup
    rw [List.pairwise_map, List.pairwise_iff_getElem]
    intro i j hi hj hij
    rw [List.length_range] at hi hj
    rw [List.getElem_range, List.getElem_range]
    intro e
    exact hc ⟨i, j, hij, by omega, e⟩
  have := nodup_len hnd (n := n) fun k hk => by
    rw [List.mem_map] at hk
    obtain ⟨j, hj, rfl⟩ := hk
    rw [List.mem_range] at hj
    exact h j (by omega)
  rw [List.length_map, List.length_range] at this
  omega
/-- a way back to i of length L: then it is reached -/
theorem reach_iter {n : Nat} {a : Nat → List Int} {g : Nat → Nat} {i L : Nat} (hstep : ∀ j, j < L → iter g j i < n ∧ ((iter g (j + 1) i : Nat) : Int) ∈ a (iter g j i)) (hL : iter g L i = i)
    (hmin : ∀ j, 0 < j → j < L → iter g j i ≠ i) : ∀ (s j : Nat), j < L → L ≤ j + s → reachB n a i s (iter g j i) = true
  | 0, j, h1, h2 => by omega
  | s + 1, j, h1, h2 => by
    unfold reachB
    rw [List.any_eq_true]
    refine ⟨_, (hstep j h1).2, ?_⟩
    by_cases e : j + 1 = L
    · rw [e, hL]; simp
    · rw [Bool.or_eq_true]
      right
      have hlt : j + 1 < L := by omega
      have hn := (hstep (j + 1) hlt).1
      have hne : iter g (j + 1) i ≠ iter g j i := by
        intro c
        have hfix : ∀ d, iter g (j + d) i = iter g j i := by
          intro d
          induction d with
          | zero => rfl
          | succ d ih =>
            show g (iter g (j + d) i) = _
            rw [ih]
            exact c
        have h3 := hfix (L - j)
        rw [show j + (L - j) = L by omega, hL] at h3
        by_cases j0 : j = 0
        · subst j0
          exact hmin 1 (by omega) (by omega) (by rw [show iter g 1 i = iter g (0 + 1) i from rfl, c]; rfl)
        · exact hmin j (by omega) h1 h3.symm
      have ih := reach_iter hstep hL hmin s (j + 1) hlt (by omega)
      rw [Int.toNat_natCast, ih]
      simp
      omega
/-- a row is without an order just if one of its places is reached from itself -/
theorem cyc_iff {n : Nat} {a : Nat → List Int} {o : List Nat} {f : Bool} (h : Run n a [] o f) : f = false ↔ ∃ i, i < n ∧ reachB n a i n i = true := by
  have hso := h.so (So.nil n a)
  constructor
  · intro hf
    obtain ⟨hlen, hb⟩ := h.stuck_best hf
    -- each place that is left has a successor that is left
    have hsucc : ∀ k, ∃ t, (k < n ∧ k ∉ o) → t < n ∧ t ∉ o ∧ (t : Int) ∈ a k := by
      intro k
      by_cases c : k < n ∧ k ∉ o
      · rcases hb k c.1 with e | e
        · exact absurd e c.2
        · unfold wt at e
          have hp : 0 < (tg n (a k)).countP fun t => !o.contains t := by omega
          rw [List.countP_pos_iff] at hp
          obtain ⟨t, ht, h2⟩ := hp
          have hm := tg_mem.1 ht
          exact ⟨t, fun _ => ⟨hm.1, by simpa using h2, hm.2⟩⟩
      · exact ⟨0, fun d => absurd d c⟩
    obtain ⟨g, hg⟩ := Classical.axiomOfChoice hsucc
    obtain ⟨x0, hx0⟩ : ∃ k, k < n ∧ k ∉ o := by
      refine Classical.byContradiction fun hc => ?_
      have hsub : ∀ k ∈ List.range n, k ∈ o := fun k hk => Classical.byContradiction fun c => hc ⟨k, by simpa using hk, c⟩
      have key : ∀ {l l2 : List Nat}, l.Nodup → (∀ x ∈ l, x ∈ l2) → l.length ≤ l2.length := by
        intro l
        induction l with
        | nil => intro l2 _ _; simp
        | cons x l ih =>
          intro l2 hn h
          rw [List.nodup_cons] at hn
          have hx := h x (by simp)
          have h1 := ih (l2 := l2.erase x) hn.2 fun y hy => (List.mem_erase_of_ne (fun e => hn.1 (by rw [← e]; exact hy))).2 (h y (by simp [hy]))
          rw [List.length_erase_of_mem hx] at h1
          have : 0 < l2.length := List.length_pos_of_mem hx
          simp only [List.length_cons]
          omega
      have := key List.nodup_range hsub
      rw [List.length_range] at this
      omega
    have hin : ∀ j, iter g j x0 < n ∧ iter g j x0 ∉ o := by
      intro j
      induction j with
      | zero => exact hx0
      | succ j ih => exact ⟨(hg _ ih).1, (hg _ ih).2.1⟩
    obtain ⟨p, q, hpq, hqn, he⟩ := pigeon (n := n) (f := fun j => iter g j x0) (fun j _ => (hin j).1)
    have hiter : ∀ j, iter g j (iter g p x0) = iter g (j + p) x0 := fun j => (iter_add g j p x0).symm
    -- the least way back
    have hex : ∃ L, 0 < L ∧ L ≤ n ∧ iter g L (iter g p x0) = iter g p x0 := ⟨q - p, by omega, by omega, by rw [hiter, show q - p + p = q by omega]; exact he.symm⟩
    have hmin : ∃ L, 0 < L ∧ L ≤ n ∧ iter g L (iter g p x0) = iter g p x0 ∧ ∀ j, 0 < j → j < L → iter g j (iter g p x0) ≠ iter g p x0 := by
      obtain ⟨L, h1, h2, h3⟩ := hex
      induction L using Nat.strongRecOn with
      | ind L ih =>
        by_cases c : ∃ j, 0 < j ∧ j < L ∧ iter g j (iter g p x0) = iter g p x0
        · obtain ⟨j, c1, c2, c3⟩ := c
          exact ih j c2 c1 (by omega) c3
        · exact ⟨L, h1, h2, h3, fun j d1 d2 d3 => c ⟨j, d1, d2, d3⟩⟩
    obtain ⟨L, h1, h2, h3, h4⟩ := hmin
    refine ⟨iter g p x0, (hin p).1, reach_iter (g := g) (fun j _ => ?_) h3 h4 n 0 h1 (by omega)⟩
    have hj := hin (j + p)
    rw [← hiter] at hj
    exact ⟨hj.1, (hg _ hj).2.2⟩
  · rintro ⟨i, hi, hr⟩
    cases f with
    | false => rfl
    | true =>
      exfalso
      have hlen := h.full_len rfl
      have hall : ∀ k, k < n → k ∈ o := fun k hk => by
        refine Classical.byContradiction fun hc => ?_
        have := nodup_len (n := n) (o := k :: o) (List.nodup_cons.2 ⟨hc, hso.nd⟩) (fun j hj => by
          rcases List.mem_cons.1 hj with e | e
          · rw [e]; exact hk
          · exact hso.lt j e)
        simp at this
        omega
      obtain ⟨p, q, e⟩ := List.append_of_mem (hall i hi)
      have := hso.reach hall hi n i hr p q e
      have hn := hso.nd
      rw [e, List.nodup_append] at hn
      exact hn.2.2 i this i (by simp) rfl
end Go.Proofs.Ytecimlbdcldkdaa.Dep
