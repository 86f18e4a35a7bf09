/- Plain: whose turn it is; no program in sight. -/
import Derived.Test.YtnjgkgnjbmfpfaaLadM
import Derived.Lib.Small
namespace Go.Proofs.Ytnjgkgnjbmfpfaa.Ot
abbrev Str := List UInt8
/-- a job, and what a user has -/
structure JD where (id : Int) (user : Str) (prio : Int) (need : Nat → Int)
structure UD where (user : Str) (has : Nat → Int)
instance : Inhabited JD := ⟨⟨0, [], 0, fun _ => 0⟩⟩
instance : Inhabited UD := ⟨⟨[], fun _ => 0⟩⟩

def most : Int := 1152921504606846976
def clip (n : Int) : Int := min (max n 0) most
def plus (a b : Nat → Int) : Nat → Int := fun i => clip (clip (a i) + clip (b i))
def zero : Nat → Int := fun _ => 0
/-- what a user has by the first rows -/
def hasB (u : Str) (h : Nat → UD) : Nat → (Nat → Int)
  | 0 => zero
  | n + 1 => if (h n).user = u then plus (hasB u h n) (h n).has else hasB u h n
/-- .. and with the jobs told -/
def hasT (u : Str) (js : Nat → JD) (v : Nat → Int) (out : List Nat) : Nat → Int := out.foldl (fun v j => if (js j).user = u then plus v (js j).need else v) v
theorem hasT_snoc (u : Str) (js : Nat → JD) (v : Nat → Int) (out : List Nat) (b : Nat) : hasT u js v (out ++ [b]) = if (js b).user = u then plus (hasT u js v out) (js b).need else hasT u js v out := by
  unfold hasT; rw [List.foldl_append]; rfl
theorem clip_range (n : Int) : 0 ≤ clip n ∧ clip n ≤ most := by unfold clip most; omega
theorem clip_of {n : Int} (h : 0 ≤ n) (h2 : n ≤ most) : clip n = n := by unfold clip; omega
theorem hasB_range (u : Str) (h : Nat → UD) (n i : Nat) : 0 ≤ hasB u h n i ∧ hasB u h n i ≤ most := by
  induction n with
  | zero => unfold hasB zero most; omega
  | succ n ih =>
    unfold hasB
    split
    · exact clip_range _
    · exact ih
theorem hasT_range (u : Str) (js : Nat → JD) (v : Nat → Int) (hv : ∀ i, 0 ≤ v i ∧ v i ≤ most) (out : List Nat) (i : Nat) : 0 ≤ hasT u js v out i ∧ hasT u js v out i ≤ most := by
  induction out generalizing v with
  | nil => exact hv i
  | cons b out ih =>
    show 0 ≤ hasT u js (if (js b).user = u then plus v (js b).need else v) out i ∧ _
    refine ih _ fun i => ?_
    split
    · exact clip_range _
    · exact hv i

/-- the test on places of one user -/
def cmpJ (js : Nat → JD) (x y : Int) : Int :=
  if Lib.compareInt (js y.toNat).prio (js x.toNat).prio = 0 then Lib.compareInt (js x.toNat).id (js y.toNat).id else Lib.compareInt (js y.toNat).prio (js x.toNat).prio
def prJ (js : Nat → JD) (x y : Int) : Prop := cmpJ js x y < 0 ∨ (cmpJ js x y = 0 ∧ x < y)
theorem cI_lt (a b : Int) : Lib.compareInt a b < 0 ↔ a < b := by unfold Lib.compareInt; split <;> (try split) <;> omega
theorem cI_eq (a b : Int) : Lib.compareInt a b = 0 ↔ a = b := by unfold Lib.compareInt; split <;> (try split) <;> omega
theorem cmpJ_lt (js : Nat → JD) (x y : Int) : cmpJ js x y < 0 ↔ (js y.toNat).prio < (js x.toNat).prio ∨ ((js y.toNat).prio = (js x.toNat).prio ∧ (js x.toNat).id < (js y.toNat).id) := by
  unfold cmpJ
  split
  · rename_i h
    rw [cI_eq] at h
    rw [cI_lt]
    omega
  · rename_i h
    rw [cI_eq] at h
    rw [cI_lt]
    omega
theorem cmpJ_eq (js : Nat → JD) (x y : Int) : cmpJ js x y = 0 ↔ (js y.toNat).prio = (js x.toNat).prio ∧ (js x.toNat).id = (js y.toNat).id := by
  unfold cmpJ
  split
  · rename_i h
    rw [cI_eq] at h
    rw [cI_eq]
    omega
  · rename_i h
    rw [cI_eq] at h ⊢
    omega
theorem prJ_iff (js : Nat → JD) (x y : Int) : prJ js x y ↔ (js y.toNat).prio < (js x.toNat).prio ∨ ((js y.toNat).prio = (js x.toNat).prio ∧ ((js x.toNat).id < (js y.toNat).id ∨ ((js x.toNat).id = (js y.toNat).id ∧ x < y))) := by
  unfold prJ
  rw [cmpJ_lt, cmpJ_eq]
  omega
theorem prJ_trans {js : Nat → JD} {x y z : Int} (h1 : prJ js x y) (h2 : prJ js y z) : prJ js x z := by
  rw [prJ_iff] at *
  omega
theorem prJ_irr (js : Nat → JD) (x : Int) : ¬ prJ js x x := by rw [prJ_iff]; omega
theorem ordJ (js : Nat → JD) (n : Nat) : Srt.Ord (cmpJ js) (Shr.okI n) (prJ js) := by
  refine ⟨fun u v _ _ h => ?_, fun u v x _ _ _ h1 h2 => prJ_trans h1 h2, fun u v _ _ h => ?_, fun u _ h => prJ_irr js u h⟩
  · unfold prJ
    constructor
    · intro h; exact Or.inl h
    · intro h; omega
  · rw [prJ_iff, prJ_iff]
    omega

/-- a question: the whole, what users have, the jobs -/
structure Par where (wh : Nat → Int) (nh : Nat) (h : Nat → UD) (n : Nat) (js : Nat → JD)
section
variable (P : Par)
/-- what a user has by now -/
def now (out : List Nat) (u : Str) : Nat → Int := hasT u P.js (hasB u P.h P.nh) out
def num (out : List Nat) (u : Str) : Int := (Shr.dom (Shr.four (now P out u 0) (now P out u 1) (now P out u 2) (now P out u 3)) (Shr.four (P.wh 0) (P.wh 1) (P.wh 2) (P.wh 3))).n
def den (out : List Nat) (u : Str) : Int := (Shr.dom (Shr.four (now P out u 0) (now P out u 1) (now P out u 2) (now P out u 3)) (Shr.four (P.wh 0) (P.wh 1) (P.wh 2) (P.wh 3))).d
def cmpU (out : List Nat) (u v : Str) : Int := Shr.cmp (num P out u) (den P out u) (num P out v) (den P out v)
/-- the job i comes ahead of the job k -/
def Less (out : List Nat) (i k : Nat) : Prop :=
  ((P.js i).user ≠ (P.js k).user ∧ (cmpU P out (P.js i).user (P.js k).user < 0 ∨ (cmpU P out (P.js i).user (P.js k).user = 0 ∧ (P.js i).user < (P.js k).user))) ∨ ((P.js i).user = (P.js k).user ∧ prJ P.js i k)
def Next (out : List Nat) (b : Nat) : Prop := b < P.n ∧ b ∉ out ∧ ∀ k, k < P.n → k ∉ out → k ≠ b → Less P out b k
/-- the first turns -/
def Told (l : List Nat) : Prop := ∀ i b, l[i]? = some b → Next P (l.take i) b
def Turns (l : List Nat) : Prop := l.length = P.n ∧ Told P l
end
section
variable {P : Par}
theorem now_range (out : List Nat) (u : Str) (i : Nat) : 0 ≤ now P out u i ∧ now P out u i ≤ most := hasT_range u P.js _ (fun i => hasB_range u P.h P.nh i) out i
theorem now_snoc (out : List Nat) (b : Nat) (u : Str) : now P (out ++ [b]) u = if (P.js b).user = u then plus (now P out u) (P.js b).need else now P out u := hasT_snoc _ _ _ _ _
theorem cmpU_swap (out : List Nat) (u v : Str) : cmpU P out v u = -(cmpU P out u v) := Shr.cmp_swap _ _ _ _
theorem Less.asymm {out : List Nat} {i k : Nat} (h : Less P out i k) (h2 : Less P out k i) : False := by
  rcases h with ⟨h1, h⟩ | ⟨h1, h⟩
  · rcases h2 with ⟨h3, h4⟩ | ⟨h3, _⟩
    · have := cmpU_swap (P := P) out (P.js i).user (P.js k).user
      rcases h with h | ⟨h, h5⟩
      · rcases h4 with h4 | ⟨h4, _⟩ <;> omega
      · rcases h4 with h4 | ⟨h4, h6⟩
        · omega
        · exact List.lt_asymm h5 h6
    · exact h1 h3.symm
  · rcases h2 with ⟨h3, _⟩ | ⟨_, h4⟩
    · exact h3 h1.symm
    · exact prJ_irr _ _ (prJ_trans h h4)
theorem Next.unique {out : List Nat} {b c : Nat} (h : Next P out b) (k : Next P out c) : b = c := by
  apply Classical.byContradiction
  intro hne
  exact (h.2.2 c k.1 k.2.1 (fun e => hne e.symm)).asymm (k.2.2 b h.1 h.2.1 hne)
theorem Told.nodup {l : List Nat} (h : Told P l) : l.Nodup := by
  rw [List.nodup_iff_pairwise_ne, List.pairwise_iff_getElem]
  intro i j hi hj hij e
  have h1 := (h j l[j] (List.getElem?_eq_getElem hj)).2.1
  refine h1 ?_
  rw [← e]
  exact List.mem_of_getElem? (i := i) (by rw [List.getElem?_take, if_pos hij, List.getElem?_eq_getElem hi])
theorem Told.lt {l : List Nat} (h : Told P l) : ∀ b ∈ l, b < P.n := fun b hb => by
  obtain ⟨i, hi⟩ := List.mem_iff_getElem?.1 hb
  exact (h i b hi).1
theorem Told.nil : Told P [] := fun i b h => by simp at h
theorem Told.snoc {l : List Nat} (h : Told P l) {b : Nat} (hb : Next P l b) : Told P (l ++ [b]) := fun i c hc => by
  by_cases hi : i < l.length
  · rw [List.getElem?_append_left hi] at hc
    rw [List.take_append_of_le_length (by omega)]
    exact h i c hc
  · rw [List.getElem?_append_right (by omega)] at hc
    have e : i = l.length := by
      cases hj : i - l.length with
      | zero => omega
      | succ j => rw [hj] at hc; simp at hc
    subst e
    simp at hc
    subst hc
    rw [List.take_left]
    exact hb
theorem Told.take {l : List Nat} (h : Told P l) (k : Nat) : Told P (l.take k) := fun i b hb => by
  rw [List.getElem?_take] at hb
  split at hb
  · rw [List.take_take, Nat.min_eq_left (by omega)]
    exact h i b hb
  · cases hb
theorem Told.unique : ∀ {l m : List Nat}, Told P l → Told P m → l.length = m.length → l = m := by
  intro l m hl hm he
  have key : ∀ k, k ≤ l.length → l.take k = m.take k := by
    intro k
    induction k with
    | zero => intro _; rfl
    | succ k ih =>
      intro hk
      have h1 : l[k]? = some l[k] := List.getElem?_eq_getElem (by omega)
      have h2 : m[k]? = some m[k] := List.getElem?_eq_getElem (by omega)
      have e := ih (by omega)
      rw [List.take_add_one, List.take_add_one, e, h1, h2]
      have n1 := hl k _ h1
      have n2 := hm k _ h2
      rw [e] at n1
      rw [n1.unique n2]
  have := key l.length (Nat.le_refl _)
  rw [List.take_length] at this
  rw [this, he, List.take_length]
end
end Go.Proofs.Ytnjgkgnjbmfpfaa.Ot
