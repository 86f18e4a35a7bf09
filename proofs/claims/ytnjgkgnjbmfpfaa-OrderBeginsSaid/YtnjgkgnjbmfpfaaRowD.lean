/- From a row's reading to values: what users have, and what jobs want. -/
import Derived.Test.YtnjgkgnjbmfpfaaRowB
import Derived.Test.YtnjgkgnjbmfpfaaUsr
namespace Go.Proofs.Ytnjgkgnjbmfpfaa
open Go.ChangeShapes Go.WideShapes Go.ChangeAt Go.RowKit Go.Deep Go.Sort Ot

theorem cellsStr : Try.prog.cellsOf 9 = 1 := by kernel_rfl
theorem cellsUse : Try.prog.cellsOf 54 = 5 := by kernel_rfl
theorem cellsWant : Try.prog.cellsOf 50 = 7 := by kernel_rfl
theorem list1' {α : Type} {l : List α} (h : l.length = 1) : ∃ a, l = [a] := by
  match l, h with
  | [a], _ => exact ⟨a, rfl⟩
theorem list2' {α : Type} {l : List α} (h : l.length = 2) : ∃ a b, l = [a, b] := by
  match l, h with
  | [a, b], _ => exact ⟨a, b, rfl⟩
theorem list4' {α : Type} {l : List α} (h : l.length = 4) : ∃ a b c d, l = [a, b, c, d] := by
  match l, h with
  | [a, b, c, d], _ => exact ⟨a, b, c, d, rfl⟩
theorem list5 {α : Type} {l : List α} (h : l.length = 5) : ∃ a b c d e, l = [a, b, c, d, e] := by
  match l, h with
  | [a, b, c, d, e], _ => exact ⟨a, b, c, d, e, rfl⟩
theorem list7 {α : Type} {l : List α} (h : l.length = 7) : ∃ a b c d e f g, l = [a, b, c, d, e, f, g] := by
  match l, h with
  | [a, b, c, d, e, f, g], _ => exact ⟨a, b, c, d, e, f, g, rfl⟩
section
variable {H : Type} {enc : TypeId × Value → H} {w : World} {base : Nat} {spare : Nat → Bool} {held : Bool}
theorem str_cell {fuel : Nat} {v : Value} {x : DataW H × List MemPlace} (h : DataW.trod enc Try.prog w base spare held fuel 9 [v] = some x) : ∃ u : Str, v = encStr u ∧ u.length ≤ maxLen := by
  obtain ⟨s, h1, _, h2⟩ := DataW.trod_string Try.underlying9 h
  refine ⟨s.data.toList, by simpa [encStr] using h1, ?_⟩
  rw [Array.length_toList]; exact h2
theorem four_in {a b c d : Int} (ha : In64 a) (hb : In64 b) (hc : In64 c) (hd : In64 d) : ∀ i, In64 (Shr.four a b c d i) := fun i => by
  unfold Shr.four
  split <;> assumption
set_option maxRecDepth 100000 in
theorem use_cells {fuel : Nat} {cs : List Value} {x : DataW H × List MemPlace} (h : DataW.trod enc Try.prog w base spare held fuel 54 cs = some x) :
    ∃ j : UD, cs = [encStr j.user, .int .i64 (j.has 0), .int .i64 (j.has 1), .int .i64 (j.has 2), .int .i64 (j.has 3)] ∧ j.user.length ≤ maxLen ∧ ∀ i, In64 (j.has i) := by
  obtain ⟨xs, n, _, _, hl, hxl, hf⟩ := DataW.trod_struct Try.underlying54 h
  rw [cellsUse] at hl
  obtain ⟨c0, c1, c2, c3, c4, rfl⟩ := list5 hl
  obtain ⟨x0, x1, rfl⟩ := list2' hxl
  have g0 := hf 0 _ rfl
  have g1 := hf 1 _ rfl
  simp [cellsStr, cellsVec] at g0 g1
  obtain ⟨u, rfl, hu⟩ := str_cell g0
  obtain ⟨a, b, c, d, h2, ha, hb, hc, hd⟩ := vec_cells g1
  simp only [List.cons.injEq, and_true] at h2
  obtain ⟨rfl, rfl, rfl, rfl⟩ := h2
  exact ⟨⟨u, Shr.four a b c d⟩, rfl, hu, four_in ha hb hc hd⟩
set_option maxRecDepth 100000 in
theorem want_cells {fuel : Nat} {cs : List Value} {x : DataW H × List MemPlace} (h : DataW.trod enc Try.prog w base spare held fuel 50 cs = some x) :
    ∃ j : JD, cs = [.int .i64 j.id, encStr j.user, .int .i64 j.prio, .int .i64 (j.need 0), .int .i64 (j.need 1), .int .i64 (j.need 2), .int .i64 (j.need 3)] ∧ In64 j.id ∧ j.user.length ≤ maxLen ∧ In64 j.prio ∧ ∀ i, In64 (j.need i) := by
  obtain ⟨xs, n, _, _, hl, hxl, hf⟩ := DataW.trod_struct Try.underlying50 h
  rw [cellsWant] at hl
  obtain ⟨c0, c1, c2, c3, c4, c5, c6, rfl⟩ := list7 hl
  obtain ⟨x0, x1, x2, x3, rfl⟩ := list4' hxl
  have g0 := hf 0 _ rfl
  have g1 := hf 1 _ rfl
  have g2 := hf 2 _ rfl
  have g3 := hf 3 _ rfl
  simp [cellsStr, cellsInt, cellsVec] at g0 g1 g2 g3
  obtain ⟨i, rfl, hi⟩ := int_cell g0
  obtain ⟨u, rfl, hu⟩ := str_cell g1
  obtain ⟨p, rfl, hp⟩ := int_cell g2
  obtain ⟨a, b, c, d, h2, ha, hb, hc, hd⟩ := vec_cells g3
  simp only [List.cons.injEq, and_true] at h2
  obtain ⟨rfl, rfl, rfl, rfl⟩ := h2
  exact ⟨⟨i, u, p, Shr.four a b c d⟩, rfl, hi, hu, hp, four_in ha hb hc hd⟩
set_option maxRecDepth 100000 in
theorem open_uses {r : Reach} {b0 : Nat} {v : Value} {d : DataW H} {ps : List MemPlace} (hv : Value.okWide Try.prog w r b0 45 v) (h : DataW.Trod enc Try.prog w base spare held 45 v d ps) :
    ∃ A n c, v = .slice A n c ∧ n ≤ c ∧ c ≤ 9223372036854775807 ∧ ∃ f, UsesIn w A n f := by
  obtain ⟨A, n, c, rfl⟩ := okWide_slice Try.underlying45 hv
  obtain ⟨fuel, hf⟩ := h
  refine ⟨A, n, c, rfl, ?_⟩
  rcases open_slice Try.underlying45 hf with ⟨hcs, _⟩ | ⟨ad, len, cap, m, k, D, Pl, hcs, _, hl, hm, hmm, _, hx⟩
  · simp [Value.cells] at hcs
    obtain ⟨_, rfl, rfl⟩ := hcs
    exact ⟨by omega, by omega, fun _ => default, fun h => by omega⟩
  · simp [Value.cells] at hcs
    obtain ⟨rfl, rfl, rfl⟩ := hcs
    unfold maxLen at hm
    refine ⟨hl, by omega, ?_⟩
    by_cases hn : 0 < n
    · have hnm : n ≤ m := by rw [hmm]; split <;> omega
      rw [cellsUse] at hx
      have each : ∀ i, i < n → ∃ q : UD, (w.cell? (ad.add (i * 5)) = some (encStr q.user) ∧ w.cell? (ad.add (i * 5 + 1)) = some (.int .i64 (q.has 0)) ∧ w.cell? (ad.add (i * 5 + 2)) = some (.int .i64 (q.has 1)) ∧ w.cell? (ad.add (i * 5 + 3)) = some (.int .i64 (q.has 2)) ∧ w.cell? (ad.add (i * 5 + 4)) = some (.int .i64 (q.has 3))) ∧ q.user.length ≤ maxLen ∧ ∀ i, In64 (q.has i) := by
        intro i hi
        obtain ⟨cs', h1, h2⟩ := hx i (by omega)
        obtain ⟨_, hlen, hcell⟩ := World.cells?_some h1
        obtain ⟨j, rfl, hb⟩ := use_cells h2
        have e0 := hcell 0 (by omega)
        have e1 := hcell 1 (by omega)
        have e2 := hcell 2 (by omega)
        have e3 := hcell 3 (by omega)
        have e4 := hcell 4 (by omega)
        rw [add_add] at e0 e1 e2 e3 e4
        exact ⟨j, ⟨by simpa using e0, by simpa using e1, by simpa using e2, by simpa using e3, by simpa using e4⟩, hb⟩
      obtain ⟨q, hq⟩ := choose_lt each
      obtain ⟨bl, off, spot⟩ := ad
      have h0 := (hq 0 hn).1.1
      have hspot : spot = none := by
        have h0' : w.cell? ⟨bl, off, spot⟩ = some (encStr (q 0).user) := by simpa [Addr.add] using h0
        exact World.cell?_spot h0'
      subst hspot
      refine ⟨q, fun _ => ⟨bl, off, rfl, fun i hi => ?_⟩⟩
      obtain ⟨⟨g0, g1, g2, g3, g4⟩, gb⟩ := hq i hi
      rw [add_at] at g0 g1 g2 g3 g4
      exact ⟨g0, by rw [Nat.add_assoc]; exact g1, by rw [Nat.add_assoc]; exact g2, by rw [Nat.add_assoc]; exact g3, by rw [Nat.add_assoc]; exact g4, gb.1, gb.2⟩
    · exact ⟨fun _ => default, fun h => absurd h hn⟩
set_option maxRecDepth 100000 in
theorem open_wants {r : Reach} {b0 : Nat} {v : Value} {d : DataW H} {ps : List MemPlace} (hv : Value.okWide Try.prog w r b0 46 v) (h : DataW.Trod enc Try.prog w base spare held 46 v d ps) :
    ∃ A n c, v = .slice A n c ∧ n ≤ c ∧ c ≤ 9223372036854775807 ∧ ∃ f, WantsIn w A n f := by
  obtain ⟨A, n, c, rfl⟩ := okWide_slice Try.underlying46 hv
  obtain ⟨fuel, hf⟩ := h
  refine ⟨A, n, c, rfl, ?_⟩
  rcases open_slice Try.underlying46 hf with ⟨hcs, _⟩ | ⟨ad, len, cap, m, k, D, Pl, hcs, _, hl, hm, hmm, _, hx⟩
  · simp [Value.cells] at hcs
    obtain ⟨_, rfl, rfl⟩ := hcs
    exact ⟨by omega, by omega, fun _ => default, fun h => by omega⟩
  · simp [Value.cells] at hcs
    obtain ⟨rfl, rfl, rfl⟩ := hcs
    unfold maxLen at hm
    refine ⟨hl, by omega, ?_⟩
    by_cases hn : 0 < n
    · have hnm : n ≤ m := by rw [hmm]; split <;> omega
      rw [cellsWant] at hx
      have each : ∀ i, i < n → ∃ q : JD, (w.cell? (ad.add (i * 7)) = some (.int .i64 q.id) ∧ w.cell? (ad.add (i * 7 + 1)) = some (encStr q.user) ∧ w.cell? (ad.add (i * 7 + 2)) = some (.int .i64 q.prio) ∧ w.cell? (ad.add (i * 7 + 3)) = some (.int .i64 (q.need 0)) ∧ w.cell? (ad.add (i * 7 + 4)) = some (.int .i64 (q.need 1)) ∧ w.cell? (ad.add (i * 7 + 5)) = some (.int .i64 (q.need 2)) ∧ w.cell? (ad.add (i * 7 + 6)) = some (.int .i64 (q.need 3))) ∧ In64 q.id ∧ q.user.length ≤ maxLen ∧ In64 q.prio ∧ ∀ i, In64 (q.need i) := by
        intro i hi
        obtain ⟨cs', h1, h2⟩ := hx i (by omega)
        obtain ⟨_, hlen, hcell⟩ := World.cells?_some h1
        obtain ⟨j, rfl, hb⟩ := want_cells h2
        have e0 := hcell 0 (by omega)
        have e1 := hcell 1 (by omega)
        have e2 := hcell 2 (by omega)
        have e3 := hcell 3 (by omega)
        have e4 := hcell 4 (by omega)
        have e5 := hcell 5 (by omega)
        have e6 := hcell 6 (by omega)
        rw [add_add] at e0 e1 e2 e3 e4 e5 e6
        exact ⟨j, ⟨by simpa using e0, by simpa using e1, by simpa using e2, by simpa using e3, by simpa using e4, by simpa using e5, by simpa using e6⟩, hb⟩
      obtain ⟨q, hq⟩ := choose_lt each
      obtain ⟨bl, off, spot⟩ := ad
      have h0 := (hq 0 hn).1.1
      have hspot : spot = none := by
        have h0' : w.cell? ⟨bl, off, spot⟩ = some (.int .i64 (q 0).id) := by simpa [Addr.add] using h0
        exact World.cell?_spot h0'
      subst hspot
      refine ⟨q, fun _ => ⟨bl, off, rfl, fun i hi => ?_⟩⟩
      obtain ⟨⟨g0, g1, g2, g3, g4, g5, g6⟩, gb⟩ := hq i hi
      rw [add_at] at g0 g1 g2 g3 g4 g5 g6
      exact ⟨g0, by rw [Nat.add_assoc]; exact g1, by rw [Nat.add_assoc]; exact g2, by rw [Nat.add_assoc]; exact g3, by rw [Nat.add_assoc]; exact g4, by rw [Nat.add_assoc]; exact g5, by rw [Nat.add_assoc]; exact g6, gb.1, gb.2.1, gb.2.2.1, gb.2.2.2⟩
    · exact ⟨fun _ => default, fun h => absurd h hn⟩
end
end Go.Proofs.Ytnjgkgnjbmfpfaa
