/- Plain: what users have, turned and told in pieces; and the turns of the rest. -/
import Derived.Test.YtnjgkgnjbmfpfaaOtp
namespace Go.Proofs.Ytnjgkgnjbmfpfaa.Ot
/-- what a row says of a user, as a plain sum -/
def part (u : Str) (x : UD) (i : Nat) : Int := if x.user = u then clip (x.has i) else 0
def sumF (u : Str) (h : Nat → UD) (i : Nat) : Nat → Int
  | 0 => 0
  | n + 1 => sumF u h i n + part u (h n) i
def sumL (u : Str) (i : Nat) : List UD → Int
  | [] => 0
  | x :: l => part u x i + sumL u i l
theorem part_nonneg (u : Str) (x : UD) (i : Nat) : 0 ≤ part u x i := by
  unfold part; split
  · exact (clip_range _).1
  · omega
theorem sumF_nonneg (u : Str) (h : Nat → UD) (i n : Nat) : 0 ≤ sumF u h i n := by
  induction n with
  | zero => exact Int.le_refl 0
  | succ n ih => unfold sumF; have := part_nonneg u (h n) i; omega
theorem hasB_sum (u : Str) (h : Nat → UD) (n i : Nat) : hasB u h n i = min most (sumF u h i n) := by
  induction n with
  | zero => unfold hasB sumF zero most; omega
  | succ n ih =>
    have hs := sumF_nonneg u h i n
    unfold hasB sumF part
    by_cases c : (h n).user = u
    · rw [if_pos c, if_pos c]
      unfold plus
      rw [ih]
      have hc := clip_range ((h n).has i)
      rw [clip_of (n := min most (sumF u h i n)) (by unfold most; omega) (by omega)]
      unfold clip
      unfold most at *
      omega
    · rw [if_neg c, if_neg c, ih]
      congr 1
      omega
theorem sumL_append (u : Str) (i : Nat) (l m : List UD) : sumL u i (l ++ m) = sumL u i l + sumL u i m := by
  induction l with
  | nil => show sumL u i m = 0 + sumL u i m; omega
  | cons x l ih => show part u x i + sumL u i (l ++ m) = part u x i + sumL u i l + sumL u i m; rw [ih]; omega
theorem sumF_take (u : Str) (i : Nat) (l : List UD) (n : Nat) (hn : n ≤ l.length) : sumF u (fun q => l.getD q default) i n = sumL u i (l.take n) := by
  induction n with
  | zero => rfl
  | succ n ih =>
    have hx : l[n]? = some l[n] := List.getElem?_eq_getElem (by omega)
    have hd : l.getD n default = l[n] := by rw [List.getD_eq_getElem?_getD, hx]; rfl
    unfold sumF
    rw [ih (by omega), List.take_add_one, hx, sumL_append, hd]
    show _ = _ + (part u l[n] i + 0)
    omega
theorem hasB_list (u : Str) (l : List UD) : hasB u (fun q => l.getD q default) l.length = fun i => min most (sumL u i l) := by
  funext i
  rw [hasB_sum, sumF_take u i l l.length (Nat.le_refl _), List.take_length]
/-- two questions that say the same of those who have jobs -/
theorem Less.congr {P P' : Par} (hj : P.js = P'.js) (hw : P.wh = P'.wh) (hh : ∀ j, j < P.n → hasB (P.js j).user P.h P.nh = hasB (P.js j).user P'.h P'.nh) {out : List Nat} {i k : Nat} (hi : i < P.n) (hk : k < P.n) (h : Less P out i k) : Less P' out i k := by
  have hnow : ∀ j, j < P.n → now P out (P.js j).user = now P' out (P'.js j).user := fun j hjn => by
    unfold now
    rw [hh j hjn, hj]
  have hnum : ∀ j, j < P.n → num P out (P.js j).user = num P' out (P'.js j).user := fun j hjn => by unfold num; rw [hnow j hjn, hw]
  have hden : ∀ j, j < P.n → den P out (P.js j).user = den P' out (P'.js j).user := fun j hjn => by unfold den; rw [hnow j hjn, hw]
  have hc : cmpU P out (P.js i).user (P.js k).user = cmpU P' out (P'.js i).user (P'.js k).user := by unfold cmpU; rw [hnum i hi, hden i hi, hnum k hk, hden k hk]
  unfold Less at h ⊢
  rw [hc, hj] at h
  exact h
theorem Told.congr {P P' : Par} (hj : P.js = P'.js) (hw : P.wh = P'.wh) (hn : P.n = P'.n) (hh : ∀ j, j < P.n → hasB (P.js j).user P.h P.nh = hasB (P.js j).user P'.h P'.nh) {l : List Nat} (h : Told P l) : Told P' l := fun i b hb => by
  obtain ⟨h1, h2, h3⟩ := h i b hb
  exact ⟨by rw [← hn]; exact h1, h2, fun k hk ho hne => Less.congr hj hw hh h1 (by rw [hn]; exact hk) (h3 k (by rw [hn]; exact hk) ho hne)⟩

/-- the places of the rest -/
def sh (k j : Nat) : Nat := if j < k then j else j + 1
theorem sh_lt {k i j : Nat} (h : i < j) : sh k i < sh k j := by unfold sh; split <;> split <;> omega
theorem sh_inj {k i j : Nat} (h : sh k i = sh k j) : i = j := by
  rcases Nat.lt_trichotomy i j with c | c | c
  · have := sh_lt (k := k) c; omega
  · exact c
  · have := sh_lt (k := k) c; omega
theorem sh_ne (k j : Nat) : sh k j ≠ k := by unfold sh; split <;> omega
theorem sh_at {k j : Nat} (h : j ≠ k) : ∃ i, sh k i = j := by
  by_cases c : j < k
  · exact ⟨j, by unfold sh; rw [if_pos c]⟩
  · exact ⟨j - 1, by unfold sh; rw [if_neg (by omega)]; omega⟩
/-- the question behind the first turn -/
def restP (P : Par) (k : Nat) : Par := ⟨P.wh, P.nh + 1, fun q => if q < P.nh then P.h q else ⟨(P.js k).user, (P.js k).need⟩, P.n - 1, fun j => P.js (sh k j)⟩
theorem hasB_ext (u : Str) {h h' : Nat → UD} {n : Nat} (he : ∀ q, q < n → h q = h' q) : hasB u h n = hasB u h' n := by
  induction n with
  | zero => rfl
  | succ n ih =>
    unfold hasB
    rw [he n (by omega), ih (fun q hq => he q (by omega))]
theorem now_rest (P : Par) (k : Nat) (out : List Nat) (u : Str) : now (restP P k) out u = now P (k :: out.map (sh k)) u := by
  have h0 : hasB u (restP P k).h (restP P k).nh = hasT u P.js (hasB u P.h P.nh) [k] := by
    show (if ((restP P k).h P.nh).user = u then plus (hasB u (restP P k).h P.nh) ((restP P k).h P.nh).has else hasB u (restP P k).h P.nh) = if (P.js k).user = u then plus (hasB u P.h P.nh) (P.js k).need else hasB u P.h P.nh
    have e1 : (restP P k).h P.nh = ⟨(P.js k).user, (P.js k).need⟩ := by show (if P.nh < P.nh then _ else _) = _; rw [if_neg (by omega)]
    have e2 : hasB u (restP P k).h P.nh = hasB u P.h P.nh := hasB_ext u fun q hq => by show (if q < P.nh then _ else _) = _; rw [if_pos hq]
    rw [e1, e2]
  show hasT u (restP P k).js (hasB u (restP P k).h (restP P k).nh) out = hasT u P.js (hasB u P.h P.nh) (k :: out.map (sh k))
  rw [h0]
  show out.foldl _ _ = List.foldl _ (hasT u P.js (hasB u P.h P.nh) [k]) (out.map (sh k))
  rw [List.foldl_map]
  rfl
theorem less_rest {P : Par} {k : Nat} {out : List Nat} {i j : Nat} (h : Less (restP P k) out i j) : Less P (k :: out.map (sh k)) (sh k i) (sh k j) := by
  have hc : cmpU (restP P k) out (P.js (sh k i)).user (P.js (sh k j)).user = cmpU P (k :: out.map (sh k)) (P.js (sh k i)).user (P.js (sh k j)).user := by
    unfold cmpU num den
    rw [now_rest, now_rest]
    rfl
  rcases h with ⟨h1, h2⟩ | ⟨h1, h2⟩
  · exact Or.inl ⟨h1, by rw [← hc]; exact h2⟩
  · refine Or.inr ⟨h1, ?_⟩
    rw [prJ_iff] at h2 ⊢
    simp only [Int.toNat_natCast] at h2 ⊢
    have h2 : (P.js (sh k j)).prio < (P.js (sh k i)).prio ∨ ((P.js (sh k j)).prio = (P.js (sh k i)).prio ∧ ((P.js (sh k i)).id < (P.js (sh k j)).id ∨ ((P.js (sh k i)).id = (P.js (sh k j)).id ∧ (i : Int) < (j : Int)))) := h2
    rcases h2 with c | ⟨c, d | ⟨d, e⟩⟩
    · exact Or.inl c
    · exact Or.inr ⟨c, Or.inl d⟩
    · exact Or.inr ⟨c, Or.inr ⟨d, by have := sh_lt (k := k) (Int.ofNat_lt.1 e); omega⟩⟩
theorem told_rest {P : Par} {k : Nat} (hk : Next P [] k) {m : List Nat} (h : Told (restP P k) m) : Told P (k :: m.map (sh k)) := fun i b hb => by
  cases i with
  | zero => simp at hb; subst hb; exact hk
  | succ i =>
    rw [List.getElem?_cons_succ, List.getElem?_map] at hb
    cases hm : m[i]? with
    | none => rw [hm] at hb; cases hb
    | some q =>
      rw [hm] at hb
      simp at hb
      subst hb
      obtain ⟨h1, h2, h3⟩ := h i q hm
      have h1 : q < P.n - 1 := h1
      rw [List.take_succ_cons, ← List.map_take]
      refine ⟨by unfold sh; split <;> omega, ?_, fun z hz hzo hne => ?_⟩
      · rw [List.mem_cons, List.mem_map]
        rintro (c | ⟨x, hx, e⟩)
        · exact sh_ne k q c
        · exact h2 (by rw [← sh_inj e]; exact hx)
      · rw [List.mem_cons] at hzo
        obtain ⟨z', rfl⟩ := sh_at (k := k) (fun c => hzo (Or.inl c))
        have hk2 : k < P.n := hk.1
        refine less_rest (h3 z' ?_ (fun c => hzo (Or.inr (List.mem_map.2 ⟨z', c, rfl⟩))) (fun c => hne (by rw [c])))
        show z' < P.n - 1
        unfold sh at hz
        split at hz <;> omega
end Go.Proofs.Ytnjgkgnjbmfpfaa.Ot
