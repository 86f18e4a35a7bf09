/- slices.Sort and slices.Compact at a row of places: by the shelf's contracts. -/
import Derived.Test.YtecimlbdcldkdaaOrd
import Derived.Lib.SlicesCompact
namespace Go.Proofs.Ytecimlbdcldkdaa
open Go.RowKit Dep

theorem Bk.putRow {w : World} {g off : Nat} {t : TypeId} {cs : Array Value} (h : Bk w g t cs) (d : Array Int) :
    ∃ cs', Bk (Sort.putRow (Value.int .i64) w g off d) g t cs' ∧ cs'.size = cs.size ∧ ∀ j, cs'[j]? = if off ≤ j ∧ j < off + d.size ∧ j < cs.size then some (.int .i64 d[j - off]!) else cs[j]? := by
  refine ⟨Sort.putCells (Value.int .i64) off d cs, ?_, by simp [Sort.putCells], fun j => ?_⟩
  · unfold Bk at h ⊢
    simp [Sort.putRow, Sort.mapBlock, Array.getElem?_modify, h, Sort.onCells]
  · unfold Sort.putCells
    rw [Array.getElem?_mapIdx]
    by_cases hj : j < cs.size
    · rw [Array.getElem?_eq_getElem hj]
      by_cases c : off ≤ j ∧ j < off + d.size
      · rw [if_pos ⟨c.1, c.2, hj⟩]; simp [c]
      · rw [if_neg (fun h => c ⟨h.1, h.2.1⟩)]; simp [c]
    · rw [if_neg (fun h => hj h.2.2), Array.getElem?_eq_none (by omega)]
      rfl
theorem putRow_grown (w : World) (g off : Nat) (d : Array Int) (n : Nat) (os : Array Obj) : w.grownBy (Sort.grow (Sort.putRow (Value.int .i64) (Sort.ahead w n) g off d) os) (some g) := by
  refine ⟨rfl, rfl, rfl, ?_, fun b hb hne => ?_⟩
  · simp [Sort.grow, Sort.putRow, Sort.mapBlock, Sort.ahead]
  · have h1 : (Sort.putRow (Value.int .i64) (Sort.ahead w n) g off d).heap[b]? = w.heap[b]? := by
      simp only [Sort.putRow, Sort.mapBlock, Sort.ahead, Array.getElem?_modify]
      rw [if_neg (fun e => hne (by rw [e]))]
    show ((Sort.putRow (Value.int .i64) (Sort.ahead w n) g off d).heap ++ os)[b]? = _
    rw [Array.getElem?_append_left (by simpa [Sort.putRow, Sort.mapBlock, Sort.ahead] using hb)]
    exact h1
theorem Bk.ahead {w : World} {g : Nat} {t : TypeId} {cs : Array Value} (h : Bk w g t cs) (n : Nat) : Bk (Sort.ahead w n) g t cs := h
theorem Bk.grow {w : World} {g : Nat} {t : TypeId} {cs : Array Value} (h : Bk w g t cs) (os : Array Obj) : Bk (Sort.grow w os) g t cs := by
  unfold Bk at h ⊢
  show (w.heap ++ os)[g]? = _
  rw [Array.getElem?_append_left (Bk.lt h)]
  exact h

def ints (l : List Nat) : List Int := l.map fun x : Nat => (x : Int)
theorem ints_len (l : List Nat) : (ints l).length = l.length := by unfold ints; simp
theorem ints_get (l : List Nat) (j : Nat) (h : j < l.length) : (ints l)[j]? = some ((l[j] : Nat) : Int) := by unfold ints; rw [List.getElem?_map, List.getElem?_eq_getElem h]; rfl
theorem ints_back {z : List Int} (h : ∀ x ∈ z, 0 ≤ x) : ints (z.map Int.toNat) = z := by
  unfold ints
  rw [List.map_map]
  refine (List.map_congr_left (g := id) fun x hx => ?_).trans (List.map_id z)
  simp [Int.toNat_of_nonneg (h x hx)]

theorem sort_fr {w : World} {base : Nat} {A : Option Addr} {m cap : Nat} {l : List Nat} (h : FR w base (.slice A m cap) l) (hm : m ≤ 1000000) :
    Calls Try.prog 31 #[.slice A m cap] w fun e w' => e = .returned (.tuple #[]) ∧ ∃ l', FR w' base (.slice A m cap) l' ∧ l'.Pairwise (· ≤ ·) ∧ (∀ x, x ∈ l' ↔ x ∈ l) ∧ w.grownBy w' (Value.slice A m cap).ownBlock := by
  have hlen := h.len
  rcases h with ⟨e, rfl⟩ | ⟨g, o, cap', cs, e, h1, h2, h3, h4, h5, h6⟩
  · simp only [Value.slice.injEq] at e
    obtain ⟨rfl, rfl, rfl⟩ := e
    refine (Any.slices_Sort_int_none Try.lays189 none 0 w).mono ?_
    rintro e w' ⟨rfl, rfl⟩
    exact ⟨rfl, [], Or.inl ⟨rfl, rfl⟩, List.Pairwise.nil, fun x => Iff.rfl, World.grownBy.refl _ _⟩
  · simp only [Value.slice.injEq] at e
    obtain ⟨rfl, rfl, rfl⟩ := e
    have hH : Sort.Holds (Value.int .i64) w g o (ints l).toArray := fun j hj => by
      have hj' : j < l.length := by simpa [ints_len] using hj
      refine ⟨h2.cell ?_, h2.free _⟩
      rw [h6 j l[j] (List.getElem?_eq_getElem hj')]
      have : (ints l).toArray[j]! = ((l[j] : Nat) : Int) := by
        rw [getElem!_pos _ j hj]
        have := ints_get l j hj'
        rw [List.getElem?_eq_getElem (by rw [ints_len]; exact hj')] at this
        simpa using this
      rw [this]
    have hc := Any.slices_Sort_int Try.lays189 g o cap (ints l) w hH h2.lt (by rw [ints_len]; omega)
    rw [ints_len] at hc
    refine hc.mono ?_
    rintro e w' ⟨rfl, q, os, rfl⟩
    have hperm := List.mergeSort_perm (ints l) (fun x y => decide (x ≤ y))
    have hnn : ∀ x ∈ (ints l).mergeSort (fun x y => decide (x ≤ y)), 0 ≤ x := fun x hx => by
      have := hperm.mem_iff.1 hx
      unfold ints at this
      rw [List.mem_map] at this
      obtain ⟨y, _, rfl⟩ := this
      omega
    have hback := ints_back hnn
    have hs := List.pairwise_mergeSort (le := fun x y : Int => decide (x ≤ y)) (fun a b c h1 h2 => by simp at *; omega) (fun a b => by simp; omega) (ints l)
    have hl2 : ((ints l).mergeSort (fun x y => decide (x ≤ y))).length = l.length := by rw [hperm.length_eq, ints_len]
    generalize (ints l).mergeSort (fun x y => decide (x ≤ y)) = z at *
    obtain ⟨cs', a1, a2, a3⟩ := (h2.ahead q).putRow (off := o) z.toArray
    refine ⟨rfl, z.map Int.toNat, Or.inr ⟨g, o, cap, cs', by rw [List.length_map, hl2], h1, a1.grow os, by rw [List.length_map, hl2]; exact h3, by omega, by omega, fun j x hj => ?_⟩, ?_, fun x => ?_, putRow_grown w g o z.toArray q os⟩
    · have hjl := (List.getElem?_eq_some_iff.1 hj).1
      rw [List.length_map] at hjl
      rw [a3, if_pos ⟨by omega, by simp; omega, by omega⟩]
      congr 2
      rw [show o + j - o = j by omega, getElem!_pos _ j (by simpa using hjl)]
      rw [List.getElem?_map, List.getElem?_eq_getElem hjl] at hj
      simp only [Option.map_some, Option.some.injEq] at hj
      have := hnn z[j] (List.getElem_mem hjl)
      simp only [List.getElem_toArray]
      omega
    · rw [List.pairwise_map]
      exact hs.imp fun h => by simp at h; omega
    · rw [List.mem_map]
      constructor
      · rintro ⟨y, hy, rfl⟩
        have := hperm.mem_iff.1 hy
        unfold ints at this
        rw [List.mem_map] at this
        obtain ⟨u, hu, rfl⟩ := this
        simpa using hu
      · intro hx
        refine ⟨(x : Int), hperm.mem_iff.2 ?_, by simp⟩
        unfold ints
        exact List.mem_map.2 ⟨x, hx, rfl⟩

theorem compact_law {d : Array Int} (hs : ∀ i j, i < j → j < d.size → d[i]! ≤ d[j]!) : ∀ m, m ≤ d.size →
    (Lib.compactUpTo d m).Pairwise (· < ·) ∧ (∀ x, x ∈ Lib.compactUpTo d m ↔ ∃ j, j < m ∧ d[j]! = x)
  | 0, _ => by
    refine ⟨by simp [Lib.compactUpTo], fun x => ?_⟩
    simp [Lib.compactUpTo]
  | m + 1, hm => by
    obtain ⟨h1, h2⟩ := compact_law hs m (by omega)
    rw [Lib.compactUpTo_succ]
    by_cases hk : Lib.keeps d m = true
    · rw [if_pos hk]
      have hk2 : m = 0 ∨ d[m]! ≠ d[m - 1]! := by simpa [Lib.keeps] using hk
      refine ⟨?_, fun x => ?_⟩
      · rw [List.pairwise_append]
        refine ⟨h1, by simp, fun x hx y hy => ?_⟩
        simp only [List.mem_singleton] at hy
        subst hy
        obtain ⟨j, hj, rfl⟩ := (h2 x).1 hx
        rcases hk2 with h | h
        · omega
        · have b1 := hs (m - 1) m (by omega) (by omega)
          have b2 : d[j]! ≤ d[m - 1]! := by
            by_cases e : j = m - 1
            · rw [e]; omega
            · exact hs j (m - 1) (by omega) (by omega)
          omega
      · rw [List.mem_append, h2, List.mem_singleton]
        constructor
        · rintro (⟨j, hj, e⟩ | e)
          · exact ⟨j, by omega, e⟩
          · exact ⟨m, by omega, e.symm⟩
        · rintro ⟨j, hj, e⟩
          by_cases c : j = m
          · right; rw [← c]; exact e.symm
          · left; exact ⟨j, by omega, e⟩
    · rw [if_neg hk, List.append_nil]
      have hk2 : ¬ (m = 0 ∨ d[m]! ≠ d[m - 1]!) := by
        intro c
        exact hk (by simpa [Lib.keeps] using c)
      refine ⟨h1, fun x => ?_⟩
      rw [h2]
      constructor
      · rintro ⟨j, hj, e⟩
        exact ⟨j, by omega, e⟩
      · rintro ⟨j, hj, e⟩
        by_cases c : j = m
        · refine ⟨m - 1, by omega, ?_⟩
          have : d[m]! = d[m - 1]! := by
            by_cases q : d[m]! = d[m - 1]!
            · exact q
            · exact absurd (Or.inr q) hk2
          rw [← this, ← c]; exact e
        · exact ⟨j, by omega, e⟩

theorem compact_fr {w : World} {base : Nat} {A : Option Addr} {m cap : Nat} {l : List Nat} (h : FR w base (.slice A m cap) l) (hm : m ≤ 1000000) (hs : l.Pairwise (· ≤ ·)) :
    Calls Try.prog 32 #[.slice A m cap] w fun e w' => ∃ k l', e = .returned (.slice A k cap) ∧ k ≤ m ∧ FR w' base (.slice A k cap) l' ∧ l'.Pairwise (· < ·) ∧ (∀ x, x ∈ l' ↔ x ∈ l) ∧ w.grownBy w' (Value.slice A m cap).ownBlock := by
  have hlen := h.len
  rcases h with ⟨e, rfl⟩ | ⟨g, o, cap', cs, e, h1, h2, h3, h4, h5, h6⟩
  · simp only [Value.slice.injEq] at e
    obtain ⟨rfl, rfl, rfl⟩ := e
    refine (Any.slices_Compact_int_empty Try.lays20 none 0 w).mono ?_
    rintro e w' ⟨rfl, rfl⟩
    exact ⟨0, [], rfl, by omega, Or.inl ⟨rfl, rfl⟩, List.Pairwise.nil, fun x => Iff.rfl, World.grownBy.refl _ _⟩
  · simp only [Value.slice.injEq] at e
    obtain ⟨rfl, rfl, rfl⟩ := e
    have hH : Sort.Holds (Value.int .i64) w g o (ints l).toArray := fun j hj => by
      have hj' : j < l.length := by simpa [ints_len] using hj
      refine ⟨h2.cell ?_, h2.free _⟩
      rw [h6 j l[j] (List.getElem?_eq_getElem hj')]
      have : (ints l).toArray[j]! = ((l[j] : Nat) : Int) := by
        rw [getElem!_pos _ j hj]
        have := ints_get l j hj'
        rw [List.getElem?_eq_getElem (by rw [ints_len]; exact hj')] at this
        simpa using this
      rw [this]
    have hc := Any.slices_Compact_int Try.lays20 g o cap (ints l) w hH (by rw [ints_len]; omega) (by rw [ints_len]; exact h3)
    rw [ints_len] at hc
    refine hc.mono ?_
    rintro e w' ⟨rfl, q, rfl⟩
    have hsz : (ints l).toArray.size = (ints l).length := by simp
    have hsd : ∀ i j, i < j → j < (ints l).toArray.size → (ints l).toArray[i]! ≤ (ints l).toArray[j]! := fun i j hij hj => by
      rw [getElem!_pos _ i (by omega), getElem!_pos _ j hj]
      simp only [List.getElem_toArray]
      have hp : (ints l).Pairwise (· ≤ ·) := by unfold ints; rw [List.pairwise_map]; exact hs.imp fun h => by omega
      exact List.pairwise_iff_getElem.1 hp i j (by simpa using (show i < (ints l).toArray.size by omega)) (by simpa using hj) hij
    have hlaw := compact_law hsd (ints l).length (by simp)
    have hcl : (Lib.compact (ints l)).length ≤ l.length := by
      unfold Lib.compact Lib.compactUpTo
      rw [List.length_map]
      refine Nat.le_trans (List.length_filter_le _ _) ?_
      simp [ints_len]
    have hmem : ∀ x : Int, x ∈ Lib.compact (ints l) ↔ x ∈ ints l := fun x => by
      unfold Lib.compact
      rw [hlaw.2 x, List.mem_iff_getElem]
      constructor
      · rintro ⟨j, hj, e⟩
        refine ⟨j, hj, ?_⟩
        rw [getElem!_pos _ j (by simpa using hj)] at e
        simpa using e
      · rintro ⟨j, hj, e⟩
        refine ⟨j, hj, ?_⟩
        rw [getElem!_pos _ j (by simpa using hj)]
        simpa using e
    have hlt : (Lib.compact (ints l)).Pairwise (· < ·) := by unfold Lib.compact; exact hlaw.1
    have hnn : ∀ x ∈ Lib.compact (ints l), 0 ≤ x := fun x hx => by
      have := (hmem x).1 hx
      unfold ints at this
      rw [List.mem_map] at this
      obtain ⟨y, _, rfl⟩ := this
      omega
    clear hlaw hsd
    generalize hz : Lib.compact (ints l) = z at *
    obtain ⟨cs', a1, a2, a3⟩ := (h2.ahead q).putRow (off := o) (z ++ List.replicate (l.length - z.length) 0).toArray
    refine ⟨z.length, z.map Int.toNat, rfl, hcl, Or.inr ⟨g, o, cap, cs', by rw [List.length_map], h1, a1, by rw [List.length_map]; omega, by omega, by omega, fun j x hj => ?_⟩, ?_, fun x => ?_, ?_⟩
    · have hjl := (List.getElem?_eq_some_iff.1 hj).1
      rw [List.length_map] at hjl
      rw [a3, if_pos ⟨by omega, by simp; omega, by omega⟩]
      congr 2
      rw [show o + j - o = j by omega, getElem!_pos _ j (by simp; omega)]
      rw [List.getElem?_map, List.getElem?_eq_getElem hjl] at hj
      simp only [Option.map_some, Option.some.injEq] at hj
      have := hnn z[j] (List.getElem_mem hjl)
      simp only [List.getElem_toArray]
      rw [List.getElem_append_left hjl]
      omega
    · rw [List.pairwise_map]
      refine hlt.imp_of_mem fun {a b} ha hb hab => ?_
      have := hnn a ha
      have := hnn b hb
      omega
    · rw [List.mem_map]
      constructor
      · rintro ⟨y, hy, rfl⟩
        have := (hmem y).1 hy
        unfold ints at this
        rw [List.mem_map] at this
        obtain ⟨u, hu, rfl⟩ := this
        simpa using hu
      · intro hx
        refine ⟨(x : Int), (hmem _).2 ?_, by simp⟩
        unfold ints
        exact List.mem_map.2 ⟨x, hx, rfl⟩
    · have := putRow_grown w g o (z ++ List.replicate (l.length - z.length) 0).toArray q #[]
      rw [Sort.grow_empty] at this
      exact this
end Go.Proofs.Ytecimlbdcldkdaa
