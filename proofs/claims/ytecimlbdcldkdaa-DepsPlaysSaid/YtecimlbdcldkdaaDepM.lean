/- Plain: a row's places in their order, each behind those for which it waits: what the program keeps, what the document tells; both tell the same. No program in sight. -/
namespace Go.Proofs.Ytecimlbdcldkdaa.Dep
/-- the places of n that a row of numbers names -/
def tg (n : Nat) (l : List Int) : List Nat := l.filterMap fun (x : Int) => if 0 ≤ x ∧ x < (n : Int) then some x.toNat else none
/-- for how many of them (each as often as it is named) a place waits still, where those of o are out -/
def wt (n : Nat) (a : Nat → List Int) (o : List Nat) (k : Nat) : Nat := (tg n (a k)).countP fun t => !o.contains t
/-- who waits for i among the first j rows, as often as it does -/
def bk (n : Nat) (a : Nat → List Int) (i : Nat) : Nat → List Nat
  | 0 => []
  | j + 1 => bk n a i j ++ List.replicate ((tg n (a j)).count i) j

theorem tg_lt {n : Nat} {l : List Int} {t : Nat} (h : t ∈ tg n l) : t < n := by
  unfold tg at h
  rw [List.mem_filterMap] at h
  obtain ⟨x, _, h2⟩ := h
  split at h2
  · simp at h2; omega
  · cases h2
theorem tg_mem {n : Nat} {l : List Int} {t : Nat} : t ∈ tg n l ↔ t < n ∧ (t : Int) ∈ l := by
  unfold tg
  rw [List.mem_filterMap]
  constructor
  · rintro ⟨x, h1, h2⟩
    split at h2
    · simp at h2
      subst h2
      exact ⟨by omega, by rw [Int.toNat_of_nonneg (by omega)]; exact h1⟩
    · cases h2
  · rintro ⟨h1, h2⟩
    exact ⟨t, h2, by rw [if_pos (by omega)]; simp⟩
theorem wt_nil (n : Nat) (a : Nat → List Int) (k : Nat) : wt n a [] k = (tg n (a k)).length := by
  unfold wt
  rw [List.countP_eq_length]
  intro t _
  simp
theorem wt_add {n : Nat} {a : Nat → List Int} {o : List Nat} {i : Nat} (hi : i ∉ o) (k : Nat) : wt n a o k = wt n a (o ++ [i]) k + (tg n (a k)).count i := by
  unfold wt
  generalize tg n (a k) = l
  induction l with
  | nil => rfl
  | cons t l ih =>
    rw [List.countP_cons, List.countP_cons, List.count_cons, ih]
    by_cases e : t = i
    · subst e
      simp [hi]
      omega
    · by_cases ho : t ∈ o
      · simp [ho, e]
      · simp [ho, e]
        omega
theorem bk_mem {n : Nat} {a : Nat → List Int} {i j k : Nat} (h : k ∈ bk n a i j) : k < j := by
  induction j with
  | zero => cases h
  | succ j ih =>
    unfold bk at h
    rw [List.mem_append] at h
    rcases h with h | h
    · have := ih h; omega
    · have := List.eq_of_mem_replicate h; omega
theorem bk_count (n : Nat) (a : Nat → List Int) (i j k : Nat) : (bk n a i j).count k = if k < j then (tg n (a k)).count i else 0 := by
  induction j with
  | zero => simp [bk]
  | succ j ih =>
    unfold bk
    rw [List.count_append, ih, List.count_replicate]
    by_cases e : k = j
    · subst e
      simp
    · by_cases h : k < j
      · have h2 : k < j + 1 := by omega
        have h3 : ¬ j = k := by omega
        simp [h, h2, h3]
      · have h2 : ¬ k < j + 1 := by omega
        have h3 : ¬ j = k := by omega
        simp [h, h2, h3]

/-- a place more in a rising row -/
def ins (k : Nat) : List Nat → List Nat
  | [] => [k]
  | x :: l => if x < k then x :: ins k l else k :: x :: l
theorem ins_mem {k : Nat} {l : List Nat} {x : Nat} : x ∈ ins k l ↔ x = k ∨ x ∈ l := by
  induction l with
  | nil => simp [ins]
  | cons y l ih =>
    unfold ins
    split
    · rw [List.mem_cons, ih, List.mem_cons]
      constructor
      · rintro (h | h | h)
        · exact Or.inr (Or.inl h)
        · exact Or.inl h
        · exact Or.inr (Or.inr h)
      · rintro (h | h | h)
        · exact Or.inr (Or.inl h)
        · exact Or.inl h
        · exact Or.inr (Or.inr h)
    · rw [List.mem_cons]
theorem ins_rise {k : Nat} {l : List Nat} (h : l.Pairwise (· < ·)) (hk : k ∉ l) : (ins k l).Pairwise (· < ·) := by
  induction l with
  | nil => simp [ins]
  | cons y l ih =>
    rw [List.pairwise_cons] at h
    unfold ins
    split
    · rename_i hlt
      rw [List.pairwise_cons]
      refine ⟨fun z hz => ?_, ih h.2 (fun hm => hk (List.mem_cons_of_mem _ hm))⟩
      rcases ins_mem.1 hz with e | e
      · omega
      · exact h.1 z e
    · rename_i hlt
      have hne : y ≠ k := fun e => hk (by rw [e]; exact List.mem_cons_self)
      rw [List.pairwise_cons, List.pairwise_cons]
      refine ⟨fun z hz => ?_, h.1, h.2⟩
      rcases List.mem_cons.1 hz with e | e
      · omega
      · have := h.1 z e; omega
/-- where the search puts it -/
theorem ins_at {k : Nat} {l : List Nat} (h : l.Pairwise (· < ·)) : ins k l = l.take (l.countP (· < k)) ++ k :: l.drop (l.countP (· < k)) := by
  induction l with
  | nil => simp [ins]
  | cons y l ih =>
    rw [List.pairwise_cons] at h
    unfold ins
    by_cases hlt : y < k
    · rw [if_pos hlt, List.countP_cons_of_pos (by simpa using hlt), ih h.2]
      simp
    · rw [if_neg hlt]
      have h0 : (y :: l).countP (· < k) = 0 := by
        rw [List.countP_eq_zero]
        intro z hz
        rcases List.mem_cons.1 hz with e | e
        · simp; omega
        · have := h.1 z e; simp; omega
      rw [h0]
      simp

/-- what stands behind the rounds so far -/
structure Inv (n : Nat) (a : Nat → List Int) (o fr : List Nat) (lf : Nat → Int) : Prop where
  nd : o.Nodup
  lt : ∀ k ∈ o, k < n
  lf : ∀ k, k < n → lf k = wt n a o k
  rise : fr.Pairwise (· < ·)
  fr : ∀ k, k ∈ fr ↔ k < n ∧ k ∉ o ∧ wt n a o k = 0
  done : ∀ k ∈ o, wt n a o k = 0

/-- inside a round: i is out, and the first of those that wait for it are done -/
structure Mid (n : Nat) (a : Nat → List Int) (o : List Nat) (i : Nat) (p fr : List Nat) (lf : Nat → Int) : Prop where
  nd : (o ++ [i]).Nodup
  lt : ∀ k ∈ o ++ [i], k < n
  lf : ∀ k, k < n → lf k = (wt n a o k : Int) - (p.count k : Int)
  rise : fr.Pairwise (· < ·)
  fr : ∀ k, k ∈ fr ↔ k < n ∧ k ∉ o ++ [i] ∧ wt n a o k = p.count k
  done : ∀ k ∈ o ++ [i], wt n a o k = 0

theorem Inv.mid {n : Nat} {a : Nat → List Int} {o fr : List Nat} {i : Nat} {lf : Nat → Int} (h : Inv n a o (i :: fr) lf) : Mid n a o i [] fr lf := by
  have hi := (h.fr i).1 List.mem_cons_self
  have hr := h.rise
  rw [List.pairwise_cons] at hr
  refine ⟨?_, ?_, fun k hk => by rw [h.lf k hk]; simp, hr.2, fun k => ?_, ?_⟩
  · rw [List.nodup_append]
    refine ⟨h.nd, by simp, fun x hx y hy => ?_⟩
    simp at hy
    subst hy
    intro e
    subst e
    exact hi.2.1 hx
  · intro k hk
    rcases List.mem_append.1 hk with e | e
    · exact h.lt k e
    · simp at e; rw [e]; exact hi.1
  · have hk := h.fr k
    rw [List.mem_cons] at hk
    constructor
    · intro hm
      have h1 := hk.1 (Or.inr hm)
      have hlt := hr.1 k hm
      refine ⟨h1.1, ?_, by simpa using h1.2.2⟩
      rw [List.mem_append]
      rintro (e | e)
      · exact h1.2.1 e
      · simp at e; omega
    · rintro ⟨h1, h2, h3⟩
      rw [List.mem_append] at h2
      rcases hk.2 ⟨h1, fun e => h2 (Or.inl e), by simpa using h3⟩ with e | e
      · exact absurd (Or.inr (by simp [e])) h2
      · exact e
  · intro k hk
    rcases List.mem_append.1 hk with e | e
    · exact h.done k e
    · simp at e; rw [e]; exact hi.2.2
/-- one of those that wait for i has one less -/
theorem Mid.step {n : Nat} {a : Nat → List Int} {o fr p q : List Nat} {i k : Nat} {lf : Nat → Int} (h : Mid n a o i p fr lf) (hq : bk n a i n = p ++ k :: q) :
    k < n ∧ Mid n a o i (p ++ [k]) (if lf k - 1 = 0 then ins k fr else fr) (fun x => if x = k then lf k - 1 else lf x) := by
  have hkn : k < n := bk_mem (by rw [hq]; simp)
  have hi : i ∉ o := by
    have := h.nd
    rw [List.nodup_append] at this
    intro e
    exact this.2.2 i e i (by simp) rfl
  have hcnt : ∀ x, x < n → (p ++ k :: q).count x ≤ wt n a o x := fun x hx => by
    rw [← hq, bk_count, if_pos hx]
    have := wt_add (n := n) (a := a) hi x
    omega
  have hck := hcnt k hkn
  rw [List.count_append, List.count_cons_self] at hck
  have hlk := h.lf k hkn
  have hnot : k ∉ fr := fun e => by
    have := ((h.fr k).1 e).2.2
    omega
  refine ⟨hkn, h.nd, h.lt, fun x hx => ?_, ?_, fun x => ?_, h.done⟩
  · rw [List.count_append]
    by_cases e : x = k
    · subst e
      rw [if_pos rfl, hlk]
      simp
      omega
    · rw [if_neg e, h.lf x hx]
      rw [List.count_cons_of_ne (by omega)]
      simp
  · split
    · exact ins_rise h.rise hnot
    · exact h.rise
  · have hx := h.fr x
    rw [List.count_append]
    by_cases e : x = k
    · subst e
      rw [List.count_cons_self]
      split
      · rename_i h0
        rw [ins_mem]
        constructor
        · intro _
          refine ⟨hkn, fun e => ?_, by simp; omega⟩
          have := h.done x e
          omega
        · intro _; exact Or.inl rfl
      · rename_i h0
        constructor
        · intro e; exact absurd e hnot
        · rintro ⟨_, _, h3⟩
          simp at h3
          omega
    · rw [List.count_cons_of_ne (by omega)]
      simp only [List.count_nil, Nat.add_zero]
      split
      · rw [ins_mem]
        constructor
        · rintro (h1 | h1)
          · exact absurd h1 e
          · exact hx.1 h1
        · intro h1; exact Or.inr (hx.2 h1)
      · exact hx

/-- the round's end -/
theorem Mid.inv {n : Nat} {a : Nat → List Int} {o fr : List Nat} {i : Nat} {lf : Nat → Int} (h : Mid n a o i (bk n a i n) fr lf) : Inv n a (o ++ [i]) fr lf := by
  have hi : i ∉ o := by
    have := h.nd
    rw [List.nodup_append] at this
    intro e
    exact this.2.2 i e i (by simp) rfl
  have hw : ∀ k, k < n → wt n a o k = wt n a (o ++ [i]) k + (bk n a i n).count k := fun k hk => by
    rw [bk_count, if_pos hk]; exact wt_add hi k
  refine ⟨h.nd, h.lt, fun k hk => ?_, h.rise, fun k => ?_, fun k hk => ?_⟩
  · rw [h.lf k hk]
    have := hw k hk
    omega
  · rw [h.fr k]
    constructor
    · rintro ⟨h1, h2, h3⟩
      have := hw k h1
      exact ⟨h1, h2, by omega⟩
    · rintro ⟨h1, h2, h3⟩
      have := hw k h1
      exact ⟨h1, h2, by omega⟩
  · have h1 := h.done k hk
    have := hw k (h.lt k hk)
    omega
/-- the document's choice: the least place that isn't out and waits for none that isn't -/
def Best (n : Nat) (a : Nat → List Int) (o : List Nat) (r : Option Nat) : Prop :=
  match r with
  | none => ∀ k, k < n → k ∈ o ∨ wt n a o k ≠ 0
  | some i => i < n ∧ i ∉ o ∧ wt n a o i = 0 ∧ ∀ k, k < i → k ∈ o ∨ wt n a o k ≠ 0
theorem Inv.best {n : Nat} {a : Nat → List Int} {o fr : List Nat} {lf : Nat → Int} (h : Inv n a o fr lf) : Best n a o fr.head? := by
  cases fr with
  | nil =>
    intro k hk
    by_cases e : k ∈ o
    · exact Or.inl e
    · right
      intro h0
      have := (h.fr k).2 ⟨hk, e, h0⟩
      cases this
  | cons i l =>
    have hi := (h.fr i).1 List.mem_cons_self
    refine ⟨hi.1, hi.2.1, hi.2.2, fun k hk => ?_⟩
    by_cases e : k ∈ o
    · exact Or.inl e
    · right
      intro h0
      have hm := (h.fr k).2 ⟨by omega, e, h0⟩
      have hr := h.rise
      rw [List.pairwise_cons] at hr
      rcases List.mem_cons.1 hm with e2 | e2
      · omega
      · have := hr.1 k e2; omega
theorem Best.unique {n : Nat} {a : Nat → List Int} {o : List Nat} {r s : Option Nat} (h : Best n a o r) (k : Best n a o s) : r = s := by
  cases r with
  | none =>
    cases s with
    | none => rfl
    | some j =>
      exfalso
      rcases h j k.1 with e | e
      · exact k.2.1 e
      · exact e k.2.2.1
  | some i =>
    cases s with
    | none =>
      exfalso
      rcases k i h.1 with e | e
      · exact h.2.1 e
      · exact e h.2.2.1
    | some j =>
      congr 1
      rcases Nat.lt_trichotomy i j with e | e | e
      · exfalso
        rcases k.2.2.2 i e with e | e
        · exact h.2.1 e
        · exact e h.2.2.1
      · exact e
      · exfalso
        rcases h.2.2.2 j e with e | e
        · exact k.2.1 e
        · exact e k.2.2.1
/-- a row of places as the two tell it: round by round the best one; false: none is left and some place isn't out -/
inductive Run (n : Nat) (a : Nat → List Int) : List Nat → List Nat → Bool → Prop
  | full (o : List Nat) (h : o.length = n) : Run n a o o true
  | stuck (o : List Nat) (h : o.length < n) (b : Best n a o none) : Run n a o o false
  | more (o : List Nat) (i : Nat) (r : List Nat) (f : Bool) (h : o.length < n) (b : Best n a o (some i)) (k : Run n a (o ++ [i]) r f) : Run n a o r f
theorem Run.unique {n : Nat} {a : Nat → List Int} {o r s : List Nat} {f g : Bool} (h : Run n a o r f) (k : Run n a o s g) : r = s ∧ f = g := by
  induction h with
  | full o h =>
    cases k with
    | full _ _ => exact ⟨rfl, rfl⟩
    | stuck _ h2 _ => omega
    | more _ _ _ _ h2 _ _ => omega
  | stuck o h b =>
    cases k with
    | full _ h2 => omega
    | stuck _ _ _ => exact ⟨rfl, rfl⟩
    | more _ _ _ _ _ b2 _ => cases Best.unique b b2
  | more o i r f h b _ ih =>
    cases k with
    | full _ h2 => omega
    | stuck _ _ b2 => cases Best.unique b b2
    | more _ j _ _ _ b2 k2 =>
      cases Best.unique b b2
      exact ih k2
end Go.Proofs.Ytecimlbdcldkdaa.Dep
