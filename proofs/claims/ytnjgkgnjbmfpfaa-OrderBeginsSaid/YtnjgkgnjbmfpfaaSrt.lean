/- Plain: the stable sort by blocks and symmetric merges, on a row of numbers that rise at first: what it comes to. No program in sight. -/
namespace Go.Proofs.Ytnjgkgnjbmfpfaa.Srt
/-- two places change -/
def swp (d : Nat → Int) (i j : Nat) : Nat → Int := fun k => if k = i then d j else if k = j then d i else d k
/-- two ranges of c places change -/
def swr (a b c : Nat) (d : Nat → Int) : Nat → Int := fun k => if a ≤ k ∧ k < a + c then d (k - a + b) else if b ≤ k ∧ k < b + c then d (k - b + a) else d k
/-- [a, m) and [m, b) change -/
def rot (a m b : Nat) (d : Nat → Int) : Nat → Int := fun k => if a ≤ k ∧ k < a + (b - m) then d (k + (m - a)) else if a + (b - m) ≤ k ∧ k < b then d (k - (b - m)) else d k

theorem swr_zero (a b : Nat) (d : Nat → Int) : swr a b 0 d = d := by
  funext k
  unfold swr
  repeat' split
  all_goals first | rfl | (exfalso; omega)
theorem swr_step {a b c : Nat} (h : a + c < b) (d : Nat → Int) : swp (swr a b c d) (a + c) (b + c) = swr a b (c + 1) d := by
  funext k
  simp only [swr, swp]
  repeat' split
  all_goals first | rfl | (congr 1; omega) | (exfalso; omega)
theorem rot_more {m i j : Nat} (h : j < i) (hm : i ≤ m) (d : Nat → Int) : rot (m - (i - j)) m (m + j) (swr (m - i) m j d) = rot (m - i) m (m + j) d := by
  funext k
  simp only [swr, rot]
  repeat' split
  all_goals first | rfl | (congr 1; omega) | (exfalso; omega)
theorem rot_less {m i j : Nat} (h : i < j) (hm : i ≤ m) (d : Nat → Int) : rot (m - i) m (m + (j - i)) (swr (m - i) (m + j - i) i d) = rot (m - i) m (m + j) d := by
  funext k
  simp only [swr, rot]
  repeat' split
  all_goals first | rfl | (congr 1; omega) | (exfalso; omega)
theorem rot_even {m i : Nat} (hm : i ≤ m) (d : Nat → Int) : swr (m - i) m i d = rot (m - i) m (m + i) d := by
  funext k
  simp only [swr, rot]
  repeat' split
  all_goals first | rfl | (congr 1; omega) | (exfalso; omega)
theorem rot_left {a m k : Nat} (h : m = a + 1) (hk : a ≤ k) (d : Nat → Int) : swp (rot a m (k + 1) d) k (k + 1) = rot a m (k + 2) d := by
  funext x
  simp only [swp, rot]
  repeat' split
  all_goals first | rfl | (congr 1; omega) | (exfalso; omega)
theorem rot_right {k m : Nat} (hk : 0 < k) (hm : k ≤ m) (d : Nat → Int) : swp (rot k m (m + 1) d) k (k - 1) = rot (k - 1) m (m + 1) d := by
  funext x
  simp only [swp, rot]
  repeat' split
  all_goals first | rfl | (congr 1; omega) | (exfalso; omega)
theorem rot_none_left (m b : Nat) (d : Nat → Int) : rot m m b d = d := by
  funext x
  simp only [rot]
  repeat' split
  all_goals first | rfl | (congr 1; omega) | (exfalso; omega)
theorem rot_none_right (a m : Nat) (d : Nat → Int) : rot a m m d = d := by
  funext x
  simp only [rot]
  repeat' split
  all_goals first | rfl | (congr 1; omega) | (exfalso; omega)

/-- the values of [a, b) -/
def Val (a b : Nat) (d d' : Nat → Int) : Prop := (∀ i, a ≤ i → i < b → ∃ j, a ≤ j ∧ j < b ∧ d' i = d j) ∧ (∀ i, a ≤ i → i < b → ∃ j, a ≤ j ∧ j < b ∧ d i = d' j)
/-- only [a, b) changes, and its values stay in it -/
def On (a b : Nat) (d d' : Nat → Int) : Prop := (∀ i, (i < a ∨ b ≤ i) → d' i = d i) ∧ Val a b d d'
theorem Val.refl (a b : Nat) (d : Nat → Int) : Val a b d d := ⟨fun i h1 h2 => ⟨i, h1, h2, rfl⟩, fun i h1 h2 => ⟨i, h1, h2, rfl⟩⟩
theorem Val.trans {a b : Nat} {d e f : Nat → Int} (h : Val a b d e) (k : Val a b e f) : Val a b d f := by
  refine ⟨fun i h1 h2 => ?_, fun i h1 h2 => ?_⟩
  · obtain ⟨j, j1, j2, j3⟩ := k.1 i h1 h2
    obtain ⟨l, l1, l2, l3⟩ := h.1 j j1 j2
    exact ⟨l, l1, l2, j3.trans l3⟩
  · obtain ⟨j, j1, j2, j3⟩ := h.2 i h1 h2
    obtain ⟨l, l1, l2, l3⟩ := k.2 j j1 j2
    exact ⟨l, l1, l2, j3.trans l3⟩
theorem On.refl (a b : Nat) (d : Nat → Int) : On a b d d := ⟨fun _ _ => rfl, Val.refl a b d⟩
theorem On.trans {a b : Nat} {d e f : Nat → Int} (h : On a b d e) (k : On a b e f) : On a b d f := ⟨fun i hi => (k.1 i hi).trans (h.1 i hi), h.2.trans k.2⟩
theorem On.wide {a b a' b' : Nat} {d e : Nat → Int} (h : On a b d e) (ha : a' ≤ a) (hb : b ≤ b') : On a' b' d e := by
  refine ⟨fun i hi => h.1 i (by omega), fun i h1 h2 => ?_, fun i h1 h2 => ?_⟩
  · by_cases hi : a ≤ i ∧ i < b
    · obtain ⟨j, j1, j2, j3⟩ := h.2.1 i hi.1 hi.2
      exact ⟨j, by omega, by omega, j3⟩
    · exact ⟨i, h1, h2, h.1 i (by omega)⟩
  · by_cases hi : a ≤ i ∧ i < b
    · obtain ⟨j, j1, j2, j3⟩ := h.2.2 i hi.1 hi.2
      exact ⟨j, by omega, by omega, j3⟩
    · exact ⟨i, h1, h2, (h.1 i (by omega)).symm⟩
theorem On.swp {a b i j : Nat} (d : Nat → Int) (h1 : a ≤ i) (h2 : i < b) (h3 : a ≤ j) (h4 : j < b) : On a b d (swp d i j) := by
  refine ⟨fun k hk => ?_, fun k k1 k2 => ?_, fun k k1 k2 => ?_⟩
  · unfold Srt.swp; rw [if_neg (by omega), if_neg (by omega)]
  · unfold Srt.swp
    by_cases e1 : k = i
    · exact ⟨j, h3, h4, by rw [if_pos e1]⟩
    · by_cases e2 : k = j
      · exact ⟨i, h1, h2, by rw [if_neg e1, if_pos e2]⟩
      · exact ⟨k, k1, k2, by rw [if_neg e1, if_neg e2]⟩
  · unfold Srt.swp
    by_cases e1 : k = i
    · by_cases e2 : j = i
      · exact ⟨j, h3, h4, by rw [if_pos e2, e1, e2]⟩
      · exact ⟨j, h3, h4, by rw [if_neg e2, if_pos rfl, e1]⟩
    · by_cases e2 : k = j
      · exact ⟨i, h1, h2, by rw [if_pos rfl, e2]⟩
      · exact ⟨k, k1, k2, by rw [if_neg e1, if_neg e2]⟩
theorem On.rot {a m b : Nat} (d : Nat → Int) (h1 : a ≤ m) (h2 : m ≤ b) : On a b d (rot a m b d) := by
  refine ⟨fun k hk => ?_, fun k k1 k2 => ?_, fun k k1 k2 => ?_⟩
  · unfold Srt.rot; rw [if_neg (by omega), if_neg (by omega)]
  · unfold Srt.rot
    by_cases e1 : k < a + (b - m)
    · exact ⟨k + (m - a), by omega, by omega, by rw [if_pos (by omega)]⟩
    · exact ⟨k - (b - m), by omega, by omega, by rw [if_neg (by omega), if_pos (by omega)]⟩
  · by_cases e1 : k < m
    · refine ⟨k + (b - m), by omega, by omega, ?_⟩
      unfold Srt.rot
      rw [if_neg (by omega), if_pos (by omega)]
      congr 1; omega
    · refine ⟨k - (m - a), by omega, by omega, ?_⟩
      unfold Srt.rot
      rw [if_pos (by omega)]
      congr 1; omega

/-- an order of all numbers that are told apart by a test: v comes ahead of u -/
structure Ord (cmp : Int → Int → Int) (Ok : Int → Prop) (pr : Int → Int → Prop) : Prop where
  tst : ∀ u v, Ok u → Ok v → u < v → (cmp v u < 0 ↔ pr v u)
  trans : ∀ u v x, Ok u → Ok v → Ok x → pr u v → pr v x → pr u x
  total : ∀ u v, Ok u → Ok v → u ≠ v → pr u v ∨ pr v u
  irr : ∀ u, Ok u → ¬ pr u u

section
variable {cmp : Int → Int → Int} {Ok : Int → Prop} {pr : Int → Int → Prop}

def Sd (pr : Int → Int → Prop) (a b : Nat) (d : Nat → Int) : Prop := ∀ p q, a ≤ p → p < q → q < b → pr (d p) (d q)
def Rise (a b : Nat) (d : Nat → Int) : Prop := ∀ p q, a ≤ p → p < q → q < b → d p < d q
def Sep (a m b : Nat) (d : Nat → Int) : Prop := ∀ p q, a ≤ p → p < m → m ≤ q → q < b → d p < d q
def All (Ok : Int → Prop) (n : Nat) (d : Nat → Int) : Prop := ∀ i, i < n → Ok (d i)

theorem On.all {a b n : Nat} {d e : Nat → Int} (h : On a b d e) (hb : b ≤ n) (k : All Ok n d) : All Ok n e := by
  intro i hi
  by_cases hx : a ≤ i ∧ i < b
  · obtain ⟨j, _, j2, j3⟩ := h.2.1 i hx.1 hx.2
    rw [j3]; exact k j (by omega)
  · rw [h.1 i (by omega)]; exact k i hi
theorem Sd.none (a b : Nat) (d : Nat → Int) (h : b ≤ a + 1) : Sd pr a b d := fun p q h1 h2 h3 => by omega
theorem Sd.of_eq {a b : Nat} {d e : Nat → Int} (h : Sd pr a b d) (he : ∀ i, a ≤ i → i < b → e i = d i) : Sd pr a b e := fun p q h1 h2 h3 => by
  rw [he p h1 (by omega), he q (by omega) h3]; exact h p q h1 h2 h3

/-- inserting: the place j holds the value that goes down -/
structure Ins (pr : Int → Int → Prop) (a i : Nat) (d0 : Nat → Int) (j : Nat) (d : Nat → Int) : Prop where
  on : On a (i + 1) d0 d
  aj : a ≤ j
  ji : j ≤ i
  sd : ∀ p q, a ≤ p → p < q → q ≤ i → p ≠ j → q ≠ j → pr (d p) (d q)
  up : ∀ q, j < q → q ≤ i → pr (d j) (d q)
  lo : ∀ p, a ≤ p → p ≤ i → p ≠ j → d p < d j

theorem Ins.start {a i : Nat} {d : Nat → Int} (h : a ≤ i) (hs : Sd pr a i d) (hl : ∀ p, a ≤ p → p < i → d p < d i) : Ins pr a i d i d :=
  ⟨On.refl _ _ _, h, Nat.le_refl _, fun p q h1 h2 h3 _ h5 => hs p q h1 h2 (by omega), fun q h1 h2 => by omega, fun p h1 h2 h3 => hl p h1 (by omega)⟩
theorem Ins.stop {a i j n : Nat} {d0 d : Nat → Int} (O : Ord cmp Ok pr) (h : Ins pr a i d0 j d) (hk : All Ok n d) (hn : i < n) (ht : j = a ∨ ¬ cmp (d j) (d (j - 1)) < 0) : Sd pr a (i + 1) d := by
  have h1 : ∀ p, a ≤ p → p < j → pr (d p) (d j) := by
    intro p p1 p2
    have hc : ¬ cmp (d j) (d (j - 1)) < 0 := by rcases ht with h | h; (exfalso; omega); exact h
    have hj := h.ji
    have hlt := h.lo (j - 1) (by omega) (by omega) (by omega)
    have ok1 := hk (j - 1) (by omega)
    have okj := hk j (by omega)
    have hp : pr (d (j - 1)) (d j) := by
      rcases O.total _ _ ok1 okj (by omega) with h | h
      · exact h
      · exact absurd ((O.tst _ _ ok1 okj hlt).2 h) hc
    by_cases e : p = j - 1
    · rw [e]; exact hp
    · exact O.trans _ _ _ (hk p (by omega)) ok1 okj (h.sd p (j - 1) p1 (by omega) (by omega) (by omega) (by omega)) hp
  intro p q p1 p2 p3
  by_cases e1 : p = j
  · rw [e1]; exact h.up q (by omega) (by omega)
  · by_cases e2 : q = j
    · rw [e2]; exact h1 p p1 (by omega)
    · exact h.sd p q p1 p2 (by omega) e1 e2
theorem Ins.step {a i j n : Nat} {d0 d : Nat → Int} (O : Ord cmp Ok pr) (h : Ins pr a i d0 j d) (hk : All Ok n d) (hn : i < n) (ha : a < j) (ht : cmp (d j) (d (j - 1)) < 0) : Ins pr a i d0 (j - 1) (swp d j (j - 1)) := by
  have hj := h.ji
  have hlt := h.lo (j - 1) (by omega) (by omega) (by omega)
  have ok1 := hk (j - 1) (by omega)
  have okj := hk j (by omega)
  have hp := (O.tst _ _ ok1 okj hlt).1 ht
  have e1 : swp d j (j - 1) (j - 1) = d j := by unfold swp; rw [if_neg (by omega), if_pos rfl]
  have e2 : swp d j (j - 1) j = d (j - 1) := by unfold swp; rw [if_pos rfl]
  have e3 : ∀ k, k ≠ j → k ≠ j - 1 → swp d j (j - 1) k = d k := fun k h1 h2 => by unfold swp; rw [if_neg h1, if_neg h2]
  refine ⟨h.on.trans (On.swp d (by omega) (by omega) (by omega) (by omega)), by omega, by omega, ?_, ?_, ?_⟩
  · intro p q p1 p2 p3 p4 p5
    by_cases x : p = j
    · rw [x, e2, e3 q (by omega) p5]
      exact h.sd (j - 1) q (by omega) (by omega) p3 (by omega) (by omega)
    · by_cases y : q = j
      · rw [y, e2, e3 p x p4]
        exact h.sd p (j - 1) p1 (by omega) (by omega) x (by omega)
      · rw [e3 p x p4, e3 q y p5]
        exact h.sd p q p1 p2 p3 x y
  · intro q q1 q2
    rw [e1]
    by_cases y : q = j
    · rw [y, e2]; exact hp
    · rw [e3 q y (by omega)]; exact h.up q (by omega) q2
  · intro p p1 p2 p3
    rw [e1]
    by_cases y : p = j
    · rw [y, e2]; exact hlt
    · rw [e3 p y p3]; exact h.lo p p1 p2 y
end
section
variable {cmp : Int → Int → Int} {Ok : Int → Prop} {pr : Int → Int → Prop}

theorem tst_no {u v : Int} (O : Ord cmp Ok pr) (hu : Ok u) (hv : Ok v) (h : u < v) (ht : ¬ cmp v u < 0) : pr u v := by
  rcases O.total u v hu hv (by omega) with k | k
  · exact k
  · exact absurd ((O.tst u v hu hv h).2 k) ht
theorem sd_le {a b p q n : Nat} {d : Nat → Int} {x : Int} (O : Ord cmp Ok pr) (hk : All Ok n d) (hx : Ok x) (h : Sd pr a b d) (h1 : a ≤ p) (h2 : p ≤ q) (h3 : q < b) (hb : b ≤ n) (k : pr (d q) x) : pr (d p) x := by
  by_cases e : p = q
  · rw [e]; exact k
  · exact O.trans _ _ _ (hk p (by omega)) (hk q (by omega)) hx (h p q h1 (by omega) h3) k
theorem le_sd {a b p q n : Nat} {d : Nat → Int} {x : Int} (O : Ord cmp Ok pr) (hk : All Ok n d) (hx : Ok x) (h : Sd pr a b d) (h1 : a ≤ p) (h2 : p ≤ q) (h3 : q < b) (hb : b ≤ n) (k : pr x (d p)) : pr x (d q) := by
  by_cases e : p = q
  · rw [← e]; exact k
  · exact O.trans _ _ _ hx (hk p (by omega)) (hk q (by omega)) k (h p q h1 (by omega) h3)

theorem single_left {a m b i n : Nat} {d : Nat → Int} (O : Ord cmp Ok pr) (hk : All Ok n d) (hb : b ≤ n) (hm : m = a + 1) (h1 : m ≤ i) (h2 : i ≤ b) (hs : Sd pr m b d)
    (c1 : m < i → pr (d (i - 1)) (d a)) (c2 : i < b → pr (d a) (d i)) : Sd pr a b (rot a m i d) := by
  have r1 : ∀ k, a ≤ k → k < i - 1 → rot a m i d k = d (k + 1) := fun k x y => by unfold rot; rw [if_pos (by omega)]; congr 1; omega
  have r2 : rot a m i d (i - 1) = d a := by unfold rot; rw [if_neg (by omega), if_pos (by omega)]; congr 1; omega
  have r3 : ∀ k, i ≤ k → rot a m i d k = d k := fun k x => by unfold rot; rw [if_neg (by omega), if_neg (by omega)]
  intro p q p1 p2 p3
  by_cases e1 : q < i - 1
  · rw [r1 p p1 (by omega), r1 q (by omega) e1]; exact hs _ _ (by omega) (by omega) (by omega)
  · by_cases e2 : q = i - 1
    · rw [r1 p p1 (by omega), e2, r2]
      exact sd_le O hk (hk a (by omega)) hs (by omega) (show p + 1 ≤ i - 1 by omega) (by omega) hb (c1 (by omega))
    · rw [r3 q (by omega)]
      by_cases e3 : p < i - 1
      · rw [r1 p p1 e3]; exact hs _ _ (by omega) (by omega) (by omega)
      · by_cases e4 : p = i - 1
        · rw [e4, r2]
          exact le_sd O hk (hk a (by omega)) hs (by omega) (show i ≤ q by omega) (by omega) hb (c2 (by omega))
        · rw [r3 p (by omega)]; exact hs _ _ (by omega) (by omega) (by omega)
theorem single_right {a m b i n : Nat} {d : Nat → Int} (O : Ord cmp Ok pr) (hk : All Ok n d) (hb : b ≤ n) (hm : b = m + 1) (h1 : a ≤ i) (h2 : i ≤ m) (hs : Sd pr a m d)
    (c1 : a < i → pr (d (i - 1)) (d m)) (c2 : i < m → pr (d m) (d i)) : Sd pr a b (rot i m b d) := by
  have r1 : ∀ k, k < i → rot i m b d k = d k := fun k x => by unfold rot; rw [if_neg (by omega), if_neg (by omega)]
  have r2 : rot i m b d i = d m := by unfold rot; rw [if_pos (by omega)]; congr 1; omega
  have r3 : ∀ k, i < k → k < b → rot i m b d k = d (k - 1) := fun k x y => by unfold rot; rw [if_neg (by omega), if_pos (by omega)]; congr 1; omega
  intro p q p1 p2 p3
  by_cases e1 : q < i
  · rw [r1 p (by omega), r1 q e1]; exact hs _ _ p1 p2 (by omega)
  · by_cases e2 : q = i
    · rw [r1 p (by omega), e2, r2]
      exact sd_le O hk (hk m (by omega)) hs p1 (show p ≤ i - 1 by omega) (by omega) (by omega) (c1 (by omega))
    · rw [r3 q (by omega) p3]
      by_cases e3 : p < i
      · rw [r1 p e3]; exact hs _ _ p1 (by omega) (by omega)
      · by_cases e4 : p = i
        · rw [e4, r2]
          exact le_sd O hk (hk m (by omega)) hs (by omega) (show i ≤ q - 1 by omega) (by omega) (by omega) (c2 (by omega))
        · rw [r3 p (by omega) (by omega)]; exact hs _ _ (by omega) (by omega) (by omega)

/-- what is asked of two rows that are merged -/
structure Two (pr : Int → Int → Prop) (a m b : Nat) (d : Nat → Int) : Prop where
  am : a < m
  mb : m < b
  l : Sd pr a m d
  r : Sd pr m b d
  sep : Sep a m b d

/-- the cut of a merge -/
structure Cut (pr : Int → Int → Prop) (a m b s e mid : Nat) (d : Nat → Int) : Prop where
  as_ : a ≤ s
  sm : s ≤ m
  me : m ≤ e
  eb : e ≤ b
  mids : s ≤ mid
  mid_ : mid + m = s + e
  c1 : a < s → e < b → pr (d (s - 1)) (d e)
  c2 : s < m → m < e → pr (d (e - 1)) (d s)

theorem Cut.left {a m b s e mid : Nat} {d : Nat → Int} (T : Two pr a m b d) (C : Cut pr a m b s e mid d) (h1 : a < s) (h2 : s < mid) : Two pr a s mid (rot s m e d) := by
  obtain ⟨_, _, _, _, _, C6, _, _⟩ := C
  have r1 : ∀ k, k < s → rot s m e d k = d k := fun k x => by unfold rot; rw [if_neg (by omega), if_neg (by omega)]
  have r2 : ∀ k, s ≤ k → k < mid → rot s m e d k = d (k + (m - s)) := fun k x y => by unfold rot; rw [if_pos (by omega)]
  refine ⟨h1, h2, fun p q x y z => ?_, fun p q x y z => ?_, fun p q x y z u => ?_⟩
  · rw [r1 p (by omega), r1 q (by omega)]; exact T.l _ _ x y (by omega)
  · rw [r2 p (by omega) (by omega), r2 q (by omega) (by omega)]; exact T.r _ _ (by omega) (by omega) (by omega)
  · rw [r1 p (by omega), r2 q (by omega) (by omega)]; exact T.sep _ _ (by omega) (by omega) (by omega) (by omega)
theorem Cut.left_done {a m b s e mid : Nat} {d : Nat → Int} (T : Two pr a m b d) (C : Cut pr a m b s e mid d) (h : ¬ (a < s ∧ s < mid)) : Sd pr a mid (rot s m e d) := by
  obtain ⟨_, _, _, _, _, C6, _, _⟩ := C
  have r1 : ∀ k, k < s → rot s m e d k = d k := fun k x => by unfold rot; rw [if_neg (by omega), if_neg (by omega)]
  have r2 : ∀ k, s ≤ k → k < mid → rot s m e d k = d (k + (m - s)) := fun k x y => by unfold rot; rw [if_pos (by omega)]
  intro p q x y z
  by_cases hs : a < s
  · rw [r1 p (by omega), r1 q (by omega)]; exact T.l _ _ x y (by omega)
  · rw [r2 p (by omega) (by omega), r2 q (by omega) (by omega)]; exact T.r _ _ (by omega) (by omega) (by omega)
theorem Cut.right {a m b s e mid : Nat} {d : Nat → Int} (T : Two pr a m b d) (C : Cut pr a m b s e mid d) (h1 : mid < e) (h2 : e < b) : Two pr mid e b (rot s m e d) := by
  obtain ⟨_, _, _, _, _, C6, _, _⟩ := C
  have r1 : ∀ k, mid ≤ k → k < e → rot s m e d k = d (k - (e - m)) := fun k x y => by unfold rot; rw [if_neg (by omega), if_pos (by omega)]
  have r2 : ∀ k, e ≤ k → rot s m e d k = d k := fun k x => by unfold rot; rw [if_neg (by omega), if_neg (by omega)]
  refine ⟨h1, h2, fun p q x y z => ?_, fun p q x y z => ?_, fun p q x y z u => ?_⟩
  · rw [r1 p (by omega) (by omega), r1 q (by omega) (by omega)]; exact T.l _ _ (by omega) (by omega) (by omega)
  · rw [r2 p (by omega), r2 q (by omega)]; exact T.r _ _ (by omega) (by omega) (by omega)
  · rw [r1 p (by omega) (by omega), r2 q (by omega)]; exact T.sep _ _ (by omega) (by omega) (by omega) (by omega)
theorem Cut.right_done {a m b s e mid : Nat} {d : Nat → Int} (T : Two pr a m b d) (C : Cut pr a m b s e mid d) (h : ¬ (mid < e ∧ e < b)) : Sd pr mid b (rot s m e d) := by
  obtain ⟨_, _, _, _, _, C6, _, _⟩ := C
  have r1 : ∀ k, mid ≤ k → k < e → rot s m e d k = d (k - (e - m)) := fun k x y => by unfold rot; rw [if_neg (by omega), if_pos (by omega)]
  have r2 : ∀ k, e ≤ k → rot s m e d k = d k := fun k x => by unfold rot; rw [if_neg (by omega), if_neg (by omega)]
  intro p q x y z
  by_cases hs : mid < e
  · rw [r1 p (by omega) (by omega), r1 q (by omega) (by omega)]; exact T.l _ _ (by omega) (by omega) (by omega)
  · rw [r2 p (by omega), r2 q (by omega)]; exact T.r _ _ (by omega) (by omega) (by omega)
theorem Cut.cross {a m b s e mid n : Nat} {d : Nat → Int} (O : Ord cmp Ok pr) (hk : All Ok n d) (hb : b ≤ n) (T : Two pr a m b d) (C : Cut pr a m b s e mid d) {p q : Nat} (p1 : a ≤ p) (p2 : p < mid) (q1 : mid ≤ q) (q2 : q < b) :
    pr (rot s m e d p) (rot s m e d q) := by
  obtain ⟨C1, C2, C3, C4, C5, C6, c1, c2⟩ := C
  have r1 : ∀ k, k < s → rot s m e d k = d k := fun k x => by unfold rot; rw [if_neg (by omega), if_neg (by omega)]
  have r2 : ∀ k, s ≤ k → k < mid → rot s m e d k = d (k + (m - s)) := fun k x y => by unfold rot; rw [if_pos (by omega)]
  have r3 : ∀ k, mid ≤ k → k < e → rot s m e d k = d (k - (e - m)) := fun k x y => by unfold rot; rw [if_neg (by omega), if_pos (by omega)]
  have r4 : ∀ k, e ≤ k → rot s m e d k = d k := fun k x => by unfold rot; rw [if_neg (by omega), if_neg (by omega)]
  have am := T.am
  have mb := T.mb
  by_cases x : p < s
  · rw [r1 p x]
    by_cases y : q < e
    · rw [r3 q q1 y]; exact T.l _ _ p1 (by omega) (by omega)
    · rw [r4 q (by omega)]
      have hc := c1 (by omega) (by omega)
      have h1 := le_sd O hk (hk (s - 1) (by omega)) T.r C3 (show e ≤ q by omega) q2 hb hc
      exact sd_le O hk (hk q (by omega)) T.l p1 (show p ≤ s - 1 by omega) (by omega) (by omega) h1
  · rw [r2 p (by omega) p2]
    by_cases y : q < e
    · rw [r3 q q1 y]
      have hc := c2 (by omega) (by omega)
      have h1 := le_sd O hk (hk (e - 1) (by omega)) T.l C1 (show s ≤ q - (e - m) by omega) (by omega) (by omega) hc
      exact sd_le O hk (hk _ (by omega)) T.r (by omega) (show p + (m - s) ≤ e - 1 by omega) (by omega) hb h1
    · rw [r4 q (by omega)]; exact T.r _ _ (by omega) (by omega) (by omega)
theorem Cut.join {a m b s e mid n : Nat} {d d2 d3 : Nat → Int} (O : Ord cmp Ok pr) (hk : All Ok n d) (hb : b ≤ n) (T : Two pr a m b d) (C : Cut pr a m b s e mid d)
    (h2 : On a mid (rot s m e d) d2) (k2 : Sd pr a mid d2) (h3 : On mid b d2 d3) (k3 : Sd pr mid b d3) : On a b d d3 ∧ Sd pr a b d3 := by
  have hx := fun p q => Cut.cross (p := p) (q := q) O hk hb T C
  obtain ⟨C1, C2, C3, C4, C5, C6, _, _⟩ := C
  have am := T.am
  have mb := T.mb
  refine ⟨(((On.rot d C2 C3).wide C1 C4).trans (h2.wide (Nat.le_refl _) (by omega))).trans (h3.wide (by omega) (Nat.le_refl _)), ?_⟩
  intro p q p1 p2 p3
  by_cases x : q < mid
  · rw [h3.1 p (by omega), h3.1 q (by omega)]; exact k2 p q p1 p2 x
  · by_cases y : mid ≤ p
    · exact k3 p q y p2 p3
    · rw [h3.1 p (by omega)]
      obtain ⟨i, i1, i2, i3⟩ := h2.2.1 p p1 (by omega)
      obtain ⟨j, j1, j2, j3⟩ := h3.2.1 q (by omega) p3
      rw [i3, j3, h2.1 j (by omega)]
      exact hx i j i1 i2 j1 j2

/-- the cut that the search comes to -/
theorem cut_of {a m b s n : Nat} {d : Nat → Int} (O : Ord cmp Ok pr) (hk : All Ok n d) (hb : b ≤ n) (T : Two pr a m b d) {mid lo hi : Nat} (hmid : mid = (a + b) / 2)
    (hlo : (mid < m ∧ lo = mid + m - b ∧ hi = mid) ∨ (m ≤ mid ∧ lo = a ∧ hi = m)) (h1 : lo ≤ s) (h2 : s ≤ hi)
    (c1 : lo < s → ¬ cmp (d (mid + m - 1 - (s - 1))) (d (s - 1)) < 0) (c2 : s < hi → cmp (d (mid + m - 1 - s)) (d s) < 0) : Cut pr a m b s (mid + m - s) mid d := by
  have am := T.am
  have mb := T.mb
  refine ⟨by omega, by omega, by omega, by omega, by omega, by omega, fun x y => ?_, fun x y => ?_⟩
  · have hc := c1 (by omega)
    have e : mid + m - 1 - (s - 1) = mid + m - s := by omega
    rw [e] at hc
    exact tst_no O (hk _ (by omega)) (hk _ (by omega)) (T.sep _ _ (by omega) (by omega) (by omega) (by omega)) hc
  · have hc := c2 (by omega)
    have e : mid + m - 1 - s = mid + m - s - 1 := by omega
    rw [e] at hc
    exact (O.tst _ _ (hk _ (by omega)) (hk _ (by omega)) (T.sep _ _ (by omega) (by omega) (by omega) (by omega))).1 hc

/-- a block of s places from a on (no more than n) is sorted, its values those of d0's -/
def Blk (pr : Int → Int → Prop) (n : Nat) (d0 : Nat → Int) (s a : Nat) (d : Nat → Int) : Prop := Sd pr a (min (a + s) n) d ∧ Val a (min (a + s) n) d0 d
theorem Blk.keep {n s a : Nat} {d0 d e : Nat → Int} (h : Blk pr n d0 s a d) (he : ∀ i, a ≤ i → i < a + s → i < n → e i = d i) : Blk pr n d0 s a e := by
  refine ⟨h.1.of_eq fun i h1 h2 => he i h1 (by omega) (by omega), fun i h1 h2 => ?_, fun i h1 h2 => ?_⟩
  · rw [he i h1 (by omega) (by omega)]; exact h.2.1 i h1 h2
  · obtain ⟨j, j1, j2, j3⟩ := h.2.2 i h1 h2
    exact ⟨j, j1, j2, by rw [he j j1 (by omega) (by omega)]; exact j3⟩
theorem Blk.beyond {n s a : Nat} {d0 d : Nat → Int} (h : n ≤ a) : Blk pr n d0 s a d := ⟨fun p q h1 h2 h3 => by omega, fun i h1 h2 => by omega, fun i h1 h2 => by omega⟩
theorem Blk.of_on {n s a b : Nat} {d0 d e : Nat → Int} (hb : b = min (a + s) n) (h : Val a b d0 d) (k : On a b d e) (hs : Sd pr a b e) : Blk pr n d0 s a e := by
  subst hb
  exact ⟨hs, h.trans k.2⟩
theorem val_eq {a b : Nat} {d0 d : Nat → Int} (h : ∀ i, a ≤ i → i < b → d i = d0 i) : Val a b d0 d := ⟨fun i h1 h2 => ⟨i, h1, h2, h i h1 h2⟩, fun i h1 h2 => ⟨i, h1, h2, (h i h1 h2).symm⟩⟩

/-- the first loop, before block t -/
def First (pr : Int → Int → Prop) (n : Nat) (d0 : Nat → Int) (t : Nat) (d : Nat → Int) : Prop := (∀ u, u < t → Blk pr n d0 20 (20 * u) d) ∧ ∀ i, 20 * t ≤ i → d i = d0 i
theorem First.step {n t : Nat} {d0 d e : Nat → Int} (h : First pr n d0 t d) (ht : 20 * t + 20 ≤ n) (k : On (20 * t) (20 * t + 20) d e) (hs : Sd pr (20 * t) (20 * t + 20) e) : First pr n d0 (t + 1) e := by
  refine ⟨fun u hu => ?_, fun i hi => by rw [k.1 i (by omega)]; exact h.2 i (by omega)⟩
  by_cases x : u = t
  · subst x
    exact Blk.of_on (by omega) (val_eq fun i h1 _ => h.2 i h1) k hs
  · exact (h.1 u (by omega)).keep fun i h1 h2 _ => k.1 i (by omega)
theorem First.last {n t : Nat} {d0 d e : Nat → Int} (h : First pr n d0 t d) (_h1 : 20 * t ≤ n) (h2 : n < 20 * t + 20) (k : On (20 * t) n d e) (hs : Sd pr (20 * t) n e) : ∀ u, Blk pr n d0 20 (20 * u) e := by
  intro u
  by_cases x : u = t
  · subst x
    exact Blk.of_on (by omega) (val_eq fun i h1 _ => h.2 i h1) k hs
  · by_cases y : u < t
    · exact (h.1 u y).keep fun i h1 h2 _ => k.1 i (by omega)
    · exact Blk.beyond (by omega)
/-- a pass of merges, before the t-th pair -/
def Pass (pr : Int → Int → Prop) (n : Nat) (d0 : Nat → Int) (s a : Nat) (d : Nat → Int) : Prop := ∃ t, a = s * (2 * t) ∧ (∀ u, u < t → Blk pr n d0 (2 * s) (s * (2 * u)) d) ∧ ∀ u, 2 * t ≤ u → Blk pr n d0 s (s * u) d
theorem Pass.start {n s : Nat} {d0 d : Nat → Int} (h : ∀ u, Blk pr n d0 s (s * u) d) : Pass pr n d0 s 0 d := ⟨0, by simp, fun u hu => by omega, fun u _ => h u⟩
theorem Pass.two {n s a b : Nat} {d0 d : Nat → Int} (h : Pass pr n d0 s a d) (hs : 0 < s) (hm : a + s < n) (hb : b = min (a + 2 * s) n) (hr : Rise 0 n d0) : Two pr a (a + s) b d := by
  obtain ⟨t, rfl, _, h2⟩ := h
  have L := h2 (2 * t) (Nat.le_refl _)
  have R := h2 (2 * t + 1) (by omega)
  have e : s * (2 * t + 1) = s * (2 * t) + s := by rw [Nat.mul_add, Nat.mul_one]
  rw [e] at R
  generalize s * (2 * t) = a at *
  have e1 : min (a + s) n = a + s := by omega
  have e2 : min (a + s + s) n = b := by omega
  unfold Blk at L R
  rw [e1] at L
  rw [e2] at R
  refine ⟨by omega, by omega, L.1, R.1, fun p q p1 p2 q1 q2 => ?_⟩
  obtain ⟨i, i1, i2, i3⟩ := L.2.1 p p1 p2
  obtain ⟨j, j1, j2, j3⟩ := R.2.1 q q1 q2
  rw [i3, j3]
  exact hr i j (by omega) (by omega) (by omega)
theorem val_join {a m b : Nat} {d0 d : Nat → Int} (h1 : a ≤ m) (h2 : m ≤ b) (h : Val a m d0 d) (k : Val m b d0 d) : Val a b d0 d := by
  refine ⟨fun i i1 i2 => ?_, fun i i1 i2 => ?_⟩
  · by_cases x : i < m
    · obtain ⟨j, j1, j2, j3⟩ := h.1 i i1 x; exact ⟨j, by omega, by omega, j3⟩
    · obtain ⟨j, j1, j2, j3⟩ := k.1 i (by omega) i2; exact ⟨j, by omega, by omega, j3⟩
  · by_cases x : i < m
    · obtain ⟨j, j1, j2, j3⟩ := h.2 i i1 x; exact ⟨j, by omega, by omega, j3⟩
    · obtain ⟨j, j1, j2, j3⟩ := k.2 i (by omega) i2; exact ⟨j, by omega, by omega, j3⟩
theorem Pass.blk {n s a b : Nat} {d0 d e : Nat → Int} (h : Pass pr n d0 s a d) (hm : a + s < n) (hb : b = min (a + 2 * s) n) (k : On a b d e) (hs : Sd pr a b e) : Blk pr n d0 (2 * s) a e := by
  obtain ⟨t, rfl, _, h2⟩ := h
  have L := h2 (2 * t) (Nat.le_refl _)
  have R := h2 (2 * t + 1) (by omega)
  have e0 : s * (2 * t + 1) = s * (2 * t) + s := by rw [Nat.mul_add, Nat.mul_one]
  rw [e0] at R
  generalize s * (2 * t) = a at *
  have e1 : min (a + s) n = a + s := by omega
  have e2 : min (a + s + s) n = b := by omega
  unfold Blk at L R
  rw [e1] at L
  rw [e2] at R
  exact Blk.of_on hb (val_join (by omega) (by omega) L.2 R.2) k hs
theorem Pass.step {n s a : Nat} {d0 d e : Nat → Int} (h : Pass pr n d0 s a d) (ha : a + 2 * s ≤ n) (hs : 0 < s) (k : On a (a + 2 * s) d e) (hd : Sd pr a (a + 2 * s) e) : Pass pr n d0 s (a + 2 * s) e := by
  have B := h.blk (b := a + 2 * s) (by omega) (by omega) k hd
  obtain ⟨t, rfl, h1, h2⟩ := h
  have e0 : s * (2 * (t + 1)) = s * (2 * t) + 2 * s := by rw [Nat.mul_add, Nat.mul_add, Nat.mul_one, Nat.mul_comm 2 s]
  refine ⟨t + 1, e0.symm, fun u hu => ?_, fun u hu => ?_⟩
  · by_cases x : u = t
    · rw [x]; exact B
    · refine (h1 u (by omega)).keep fun i i1 i2 _ => k.1 i (Or.inl ?_)
      have : s * (2 * (u + 1)) ≤ s * (2 * t) := Nat.mul_le_mul_left s (by omega)
      have e1 : s * (2 * (u + 1)) = s * (2 * u) + 2 * s := by rw [Nat.mul_add, Nat.mul_add, Nat.mul_one, Nat.mul_comm 2 s]
      omega
  · refine (h2 u (by omega)).keep fun i i1 i2 _ => k.1 i (Or.inr ?_)
    have : s * (2 * (t + 1)) ≤ s * u := Nat.mul_le_mul_left s (by omega)
    omega
theorem Pass.last {n s a : Nat} {d0 d e : Nat → Int} (h : Pass pr n d0 s a d) (ha : n < a + 2 * s) (hm : a + s < n) (k : On a n d e) (hd : Sd pr a n e) : ∀ u, Blk pr n d0 (2 * s) (2 * s * u) e := by
  have B := h.blk (b := n) hm (by omega) k hd
  obtain ⟨t, rfl, h1, h2⟩ := h
  intro u
  have e1 : 2 * s * u = s * (2 * u) := by rw [Nat.mul_comm 2 s, Nat.mul_assoc]
  rw [e1]
  by_cases x : u = t
  · rw [x]; exact B
  · by_cases y : u < t
    · refine (h1 u y).keep fun i i1 i2 _ => k.1 i (Or.inl ?_)
      have : s * (2 * (u + 1)) ≤ s * (2 * t) := Nat.mul_le_mul_left s (by omega)
      have e1 : s * (2 * (u + 1)) = s * (2 * u) + 2 * s := by rw [Nat.mul_add, Nat.mul_add, Nat.mul_one, Nat.mul_comm 2 s]
      omega
    · refine Blk.beyond ?_
      have : s * (2 * (t + 1)) ≤ s * (2 * u) := Nat.mul_le_mul_left s (by omega)
      have e1 : s * (2 * (t + 1)) = s * (2 * t) + 2 * s := by rw [Nat.mul_add, Nat.mul_add, Nat.mul_one, Nat.mul_comm 2 s]
      omega
theorem Pass.rest {n s a : Nat} {d0 d : Nat → Int} (h : Pass pr n d0 s a d) (hm : n ≤ a + s) : ∀ u, Blk pr n d0 (2 * s) (2 * s * u) d := by
  obtain ⟨t, rfl, h1, h2⟩ := h
  intro u
  have e1 : 2 * s * u = s * (2 * u) := by rw [Nat.mul_comm 2 s, Nat.mul_assoc]
  rw [e1]
  by_cases y : u < t
  · exact h1 u y
  · by_cases x : u = t
    · subst x
      have B := h2 (2 * u) (Nat.le_refl _)
      unfold Blk at B ⊢
      have e1 : min (s * (2 * u) + s) n = n := by omega
      have e2 : min (s * (2 * u) + 2 * s) n = n := by omega
      rw [e1] at B
      rw [e2]
      exact B
    · refine Blk.beyond ?_
      have : s * (2 * (t + 1)) ≤ s * (2 * u) := Nat.mul_le_mul_left s (by omega)
      have e1 : s * (2 * (t + 1)) = s * (2 * t) + 2 * s := by rw [Nat.mul_add, Nat.mul_add, Nat.mul_one, Nat.mul_comm 2 s]
      omega
theorem done {n s : Nat} {d0 d : Nat → Int} (h : ∀ u, Blk pr n d0 s (s * u) d) (hs : n ≤ s) : Sd pr 0 n d ∧ Val 0 n d0 d := by
  have B := h 0
  unfold Blk at B
  have e2 : min (s * 0 + s) n = n := by omega
  rw [e2, Nat.mul_zero] at B
  exact B
end
end Go.Proofs.Ytnjgkgnjbmfpfaa.Srt
