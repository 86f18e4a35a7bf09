/- Plain: what deps.Order keeps while it reads its argument; where it starts. No program in sight. -/
import Derived.Test.YtecimlbdcldkdaaDepM
namespace Go.Proofs.Ytecimlbdcldkdaa.Dep
def pre (e : Nat → Nat → Int) (i j : Nat) : List Int := (List.range j).map (e i)
def rowsOf (m : Nat → Nat) (e : Nat → Nat → Int) (i : Nat) : List Int := pre e i (m i)
theorem pre_succ (e : Nat → Nat → Int) (i j : Nat) : pre e i (j + 1) = pre e i j ++ [e i j] := by unfold pre; rw [List.range_succ, List.map_append]; rfl
theorem tg_in {n : Nat} (l : List Int) {t : Nat} (ht : t < n) : tg n (l ++ [(t : Int)]) = tg n l ++ [t] := by
  have h : List.filterMap (fun (x : Int) => if 0 ≤ x ∧ x < (n : Int) then some x.toNat else none) [(t : Int)] = [t] := by
    rw [List.filterMap_cons, if_pos ⟨by omega, by omega⟩]
    simp
  unfold tg
  rw [List.filterMap_append, h]
theorem tg_out {n : Nat} (l : List Int) {x : Int} (hx : ¬ (0 ≤ x ∧ x < (n : Int))) : tg n (l ++ [x]) = tg n l := by
  unfold tg
  rw [List.filterMap_append]
  simp [hx]
theorem tg_len (n : Nat) (l : List Int) : (tg n l).length ≤ l.length := by unfold tg; exact List.length_filterMap_le _ _
theorem pre_len (e : Nat → Nat → Int) (i j : Nat) : (pre e i j).length = j := by unfold pre; simp

def lfA (n : Nat) (m : Nat → Nat) (e : Nat → Nat → Int) (i j k : Nat) : Int := if k < i then ((tg n (rowsOf m e k)).length : Int) else if k = i then ((tg n (pre e i j)).length : Int) else 0
def lsA (n : Nat) (m : Nat → Nat) (e : Nat → Nat → Int) (i j k : Nat) : List Nat := if k < n then bk n (rowsOf m e) k i ++ List.replicate ((tg n (pre e i j)).count k) i else []
section
variable {n : Nat} {m : Nat → Nat} {e : Nat → Nat → Int} {i j : Nat}
theorem lfA_range (hm : ∀ i, i < n → m i ≤ 1000) (hi : i < n) (hj : j ≤ m i) (k : Nat) : 0 ≤ lfA n m e i j k ∧ lfA n m e i j k ≤ 1000 := by
  unfold lfA
  split
  · rename_i h
    have h1 := tg_len n (rowsOf m e k)
    have h2 := hm k (by omega)
    unfold rowsOf at h1 ⊢
    rw [pre_len] at h1
    omega
  · split
    · have h1 := tg_len n (pre e i j)
      rw [pre_len] at h1
      have := hm i hi
      omega
    · omega
theorem lfA_in {t : Nat} (ht : t < n) (he : e i j = (t : Int)) (k : Nat) : (if k = i then lfA n m e i j i + 1 else lfA n m e i j k) = lfA n m e i (j + 1) k := by
  unfold lfA
  by_cases h : k = i
  · subst h
    rw [if_pos rfl, if_neg (by omega), if_pos rfl, if_neg (by omega), if_pos rfl, pre_succ, he, tg_in _ ht, List.length_append]
    simp
  · rw [if_neg h]
    by_cases h2 : k < i
    · rw [if_pos h2, if_pos h2]
    · rw [if_neg h2, if_neg h, if_neg h2, if_neg h]
theorem lfA_out (he : ¬ (0 ≤ e i j ∧ e i j < (n : Int))) (k : Nat) : lfA n m e i j k = lfA n m e i (j + 1) k := by
  unfold lfA
  rw [pre_succ, tg_out _ he]
theorem lsA_in {t : Nat} (ht : t < n) (he : e i j = (t : Int)) (k : Nat) : (if k = t then lsA n m e i j t ++ [i] else lsA n m e i j k) = lsA n m e i (j + 1) k := by
  unfold lsA
  rw [pre_succ, he, tg_in _ ht]
  by_cases h : k = t
  · subst h
    rw [if_pos rfl, if_pos ht, if_pos ht, List.count_append, List.append_assoc]
    simp [List.replicate_succ']
  · rw [if_neg h, List.count_append]
    rw [List.count_singleton]
    have : (t == k) = false := by simp; omega
    rw [this]
    simp
theorem lsA_out (he : ¬ (0 ≤ e i j ∧ e i j < (n : Int))) (k : Nat) : lsA n m e i j k = lsA n m e i (j + 1) k := by
  unfold lsA
  rw [pre_succ, tg_out _ he]
theorem lfA_next (k : Nat) : lfA n m e i (m i) k = lfA n m e (i + 1) 0 k := by
  unfold lfA
  by_cases h : k < i
  · rw [if_pos h, if_pos (by omega)]
  · rw [if_neg h]
    by_cases h2 : k = i
    · subst h2
      rw [if_pos rfl, if_pos (by omega)]
      rfl
    · rw [if_neg h2, if_neg (by omega)]
      by_cases h3 : k = i + 1
      · rw [if_pos h3]; rfl
      · rw [if_neg h3]
theorem lsA_next (k : Nat) : lsA n m e i (m i) k = lsA n m e (i + 1) 0 k := by
  unfold lsA
  by_cases h : k < n
  · rw [if_pos h, if_pos h]
    show _ = (bk n (rowsOf m e) k i ++ List.replicate ((tg n (rowsOf m e i)).count k) i) ++ _
    simp [pre, rowsOf, tg]
  · rw [if_neg h, if_neg h]
theorem lfA_start (k : Nat) : lfA n m e 0 0 k = 0 := by
  unfold lfA
  rw [if_neg (by omega)]
  split
  · simp [pre, tg]
  · rfl
theorem lsA_start (k : Nat) : lsA n m e 0 0 k = [] := by
  unfold lsA
  split
  · simp [pre, tg, bk]
  · rfl
theorem lfA_end (k : Nat) (hk : k < n) : lfA n m e n 0 k = wt n (rowsOf m e) [] k := by
  unfold lfA
  rw [if_pos hk, wt_nil]
end
def frA (n : Nat) (a : Nat → List Int) (i : Nat) : List Nat := (List.range i).filter fun k => wt n a [] k == 0
theorem frA_yes {n : Nat} {a : Nat → List Int} {i : Nat} (h : wt n a [] i = 0) : frA n a (i + 1) = frA n a i ++ [i] := by
  unfold frA
  rw [List.range_succ, List.filter_append]
  simp [h]
theorem frA_no {n : Nat} {a : Nat → List Int} {i : Nat} (h : wt n a [] i ≠ 0) : frA n a (i + 1) = frA n a i := by
  unfold frA
  rw [List.range_succ, List.filter_append]
  simp [h]
theorem frA_len (n : Nat) (a : Nat → List Int) (i : Nat) : (frA n a i).length ≤ i := by
  unfold frA
  refine Nat.le_trans (List.length_filter_le _ _) ?_
  simp
def lsC (n : Nat) (a : Nat → List Int) (fr o : List Nat) (k : Nat) : List Nat := if k < n then bk n a k n else if k = n then fr else o
theorem lsC_row {n : Nat} {a : Nat → List Int} {fr o : List Nat} {k : Nat} (h : k < n) : lsC n a fr o k = bk n a k n := if_pos h
theorem lsC_free {n : Nat} {a : Nat → List Int} {fr o : List Nat} : lsC n a fr o n = fr := by unfold lsC; rw [if_neg (by omega), if_pos rfl]
theorem lsC_out {n : Nat} {a : Nat → List Int} {fr o : List Nat} : lsC n a fr o (n + 1) = o := by unfold lsC; rw [if_neg (by omega), if_neg (by omega)]
theorem lsC_setFree {n : Nat} {a : Nat → List Int} {fr o fr' : List Nat} (k : Nat) : (if k = n then fr' else lsC n a fr o k) = lsC n a fr' o k := by
  unfold lsC
  by_cases h : k = n
  · rw [if_pos h, if_neg (by omega), if_pos h]
  · rw [if_neg h, if_neg h, if_neg h]
theorem lsC_setOut {n : Nat} {a : Nat → List Int} {fr o o' : List Nat} (k : Nat) (hk : k < n + 2) : (if k = n + 1 then o' else lsC n a fr o k) = lsC n a fr o' k := by
  unfold lsC
  by_cases h : k = n + 1
  · rw [if_pos h, if_neg (by omega), if_neg (by omega)]
  · rw [if_neg h]
    by_cases h2 : k < n
    · rw [if_pos h2, if_pos h2]
    · rw [if_neg h2, if_neg h2, if_pos (by omega), if_pos (by omega)]
theorem lsA_end {n : Nat} {m : Nat → Nat} {e : Nat → Nat → Int} (k : Nat) : lsA n m e n 0 k = lsC n (rowsOf m e) (frA n (rowsOf m e) 0) [] k := by
  unfold lsA lsC
  by_cases h : k < n
  · rw [if_pos h, if_pos h]
    simp [pre, tg]
  · rw [if_neg h, if_neg h]
    split
    · rfl
    · rfl
theorem inv_start {n : Nat} {a : Nat → List Int} {lf : Nat → Int} (h : ∀ k, k < n → lf k = wt n a [] k) : Inv n a [] (frA n a n) lf := by
  refine ⟨List.nodup_nil, fun k hk => (by cases hk), h, ?_, fun k => ?_, fun k hk => (by cases hk)⟩
  · unfold frA
    exact List.pairwise_lt_range.filter _
  · unfold frA
    rw [List.mem_filter, List.mem_range]
    simp
theorem bk_len {n : Nat} {m : Nat → Nat} {e : Nat → Nat → Int} (hm : ∀ i, i < n → m i ≤ 1000) (k i : Nat) (hi : i ≤ n) : (bk n (rowsOf m e) k i).length ≤ i * 1000 := by
  induction i with
  | zero => simp [bk]
  | succ i ih =>
    unfold bk
    rw [List.length_append, List.length_replicate]
    have h1 := ih (by omega)
    have h2 : (tg n (rowsOf m e i)).count k ≤ (tg n (rowsOf m e i)).length := List.count_le_length
    have h3 := tg_len n (rowsOf m e i)
    have h4 : (rowsOf m e i).length = m i := pre_len _ _ _
    have h5 := hm i (by omega)
    omega
theorem lsA_len {n : Nat} {m : Nat → Nat} {e : Nat → Nat → Int} (hn : n ≤ 1000) (hm : ∀ i, i < n → m i ≤ 1000) {i j : Nat} (hi : i < n) (hj : j ≤ m i) (k : Nat) : (lsA n m e i j k).length ≤ 1000000 := by
  unfold lsA
  split
  · rw [List.length_append, List.length_replicate]
    have h1 := bk_len (e := e) hm k i (by omega)
    have h2 : (tg n (pre e i j)).count k ≤ (tg n (pre e i j)).length := List.count_le_length
    have h3 := tg_len n (pre e i j)
    rw [pre_len] at h3
    have h5 := hm i hi
    omega
  · simp
theorem nodup_len : ∀ {n : Nat} {o : List Nat}, o.Nodup → (∀ k ∈ o, k < n) → o.length ≤ n
  | 0, o, _, h => by
    cases o with
    | nil => simp
    | cons k l => have := h k (by simp); omega
  | n + 1, o, hn, h => by
    by_cases hm : n ∈ o
    · have h1 := nodup_len (n := n) (hn.erase n) (fun k hk => by
        have := h k (List.mem_of_mem_erase hk)
        have hne : k ≠ n := fun e => by
          rw [e] at hk
          exact hn.not_mem_erase hk
        omega)
      rw [List.length_erase_of_mem hm] at h1
      omega
    · have h1 := nodup_len (n := n) hn (fun k hk => by
        have := h k hk
        have hne : k ≠ n := fun e => hm (by rw [← e]; exact hk)
        omega)
      omega
theorem Mid.left {n : Nat} {a : Nat → List Int} {o fr p q : List Nat} {i k : Nat} {lf : Nat → Int} (h : Mid n a o i p fr lf) (hq : bk n a i n = p ++ k :: q) : 1 ≤ lf k ∧ lf k ≤ (a k).length := by
  have hkn : k < n := bk_mem (by rw [hq]; simp)
  have hi : i ∉ o := by
    have := h.nd
    rw [List.nodup_append] at this
    intro e
    exact this.2.2 i e i (by simp) rfl
  have h1 := wt_add (n := n) (a := a) hi k
  have h2 := bk_count n a i n k
  rw [if_pos hkn, hq, List.count_append, List.count_cons_self] at h2
  have h3 : wt n a o k ≤ (tg n (a k)).length := List.countP_le_length
  have h4 := tg_len n (a k)
  have h5 := h.lf k hkn
  omega
theorem Mid.free {n : Nat} {a : Nat → List Int} {o fr p q : List Nat} {i k : Nat} {lf : Nat → Int} (h : Mid n a o i p fr lf) (hq : bk n a i n = p ++ k :: q) : k ∉ fr := fun e => by
  have hkn : k < n := bk_mem (by rw [hq]; simp)
  have hi : i ∉ o := by
    have := h.nd
    rw [List.nodup_append] at this
    intro e
    exact this.2.2 i e i (by simp) rfl
  have h1 := wt_add (n := n) (a := a) hi k
  have h2 := bk_count n a i n k
  rw [if_pos hkn, hq, List.count_append, List.count_cons_self] at h2
  have := ((h.fr k).1 e).2.2
  omega
theorem Mid.frlen {n : Nat} {a : Nat → List Int} {o fr p : List Nat} {i : Nat} {lf : Nat → Int} (h : Mid n a o i p fr lf) : fr.length ≤ n :=
  nodup_len (h.rise.imp fun h => by omega) fun k hk => ((h.fr k).1 hk).1
theorem Inv.frlen {n : Nat} {a : Nat → List Int} {o fr : List Nat} {lf : Nat → Int} (h : Inv n a o fr lf) : fr.length ≤ n :=
  nodup_len (h.rise.imp fun h => by omega) fun k hk => ((h.fr k).1 hk).1
theorem Inv.lt_n {n : Nat} {a : Nat → List Int} {o fr : List Nat} {i : Nat} {lf : Nat → Int} (h : Inv n a o (i :: fr) lf) : o.length < n := by
  have h1 := h.mid
  have h2 := nodup_len h1.nd h1.lt
  simp at h2
  omega
theorem Run.length_le {n : Nat} {a : Nat → List Int} {o r : List Nat} {f : Bool} (h : Run n a o r f) : r.length ≤ o.length ∨ r.length ≤ n := by
  induction h with
  | full o ho => exact Or.inl (Nat.le_refl _)
  | stuck o ho b => exact Or.inl (Nat.le_refl _)
  | more o i r f ho b _ ih =>
    rcases ih with h | h
    · rw [List.length_append] at h
      simp at h
      exact Or.inr (by omega)
    · exact Or.inr h
end Go.Proofs.Ytecimlbdcldkdaa.Dep
