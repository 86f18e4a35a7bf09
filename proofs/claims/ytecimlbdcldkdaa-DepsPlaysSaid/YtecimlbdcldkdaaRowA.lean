/- From a row's reading to the values that the walks speak of: a script of acts. -/
import Derived.Test.YtecimlbdcldkdaaRow
namespace Go.Proofs.Ytecimlbdcldkdaa
open Go.ChangeShapes Go.WideShapes Go.ChangeAt Go.RowKit Go.Deep

/-- an act as it lies in memory -/
structure AD where
  (add : Bool) (id : Int) (A : Option Addr) (n c : Nat) (e : Nat → Int) (well : Bool)
instance : Inhabited AD := ⟨⟨false, 0, none, 0, 0, fun _ => 0, false⟩⟩
/-- an act at a place -/
structure ActAt (w : World) (bl o : Nat) (a : AD) : Prop where
  c0 : w.cell? ⟨bl, o, none⟩ = some (.bool a.add)
  c1 : w.cell? ⟨bl, o + 1, none⟩ = some (.int .i64 a.id)
  c2 : w.cell? ⟨bl, o + 2, none⟩ = some (.slice a.A a.n a.c)
  c3 : w.cell? ⟨bl, o + 3, none⟩ = some (.bool a.well)
  id64 : In64 a.id
  row : IntsIn w a.A a.n a.e
/-- n acts of a script that can be read -/
def ActsIn (w : World) (A : Option Addr) (n : Nat) (f : Nat → AD) : Prop :=
  n ≤ 9223372036854775807 ∧ (0 < n → ∃ bl off, A = some ⟨bl, off, none⟩ ∧ ∀ i, i < n → ActAt w bl (off + i * 4) (f i))

theorem cellsBool : Try.prog.cellsOf 4 = 1 := by kernel_rfl
theorem cellsAct : Try.prog.cellsOf 39 = 4 := by kernel_rfl
theorem list4 {α : Type} {l : List α} (h : l.length = 4) : ∃ a b c d, l = [a, b, c, d] := by
  match l, h with
  | [a, b, c, d], _ => exact ⟨a, b, c, d, rfl⟩
section
variable {H : Type} {enc : TypeId × Value → H} {w : World} {base : Nat} {spare : Nat → Bool} {held : Bool}
theorem bool_cell {fuel : Nat} {v : Value} {x : DataW H × List MemPlace} (h : DataW.trod enc Try.prog w base spare held fuel 4 [v] = some x) : ∃ b, v = .bool b := by
  obtain ⟨b, h1, _⟩ := DataW.trod_bool Try.underlying4 h
  exact ⟨b, by simpa using h1⟩
set_option maxRecDepth 100000 in
theorem act_cells {fuel : Nat} {cs : List Value} {x : DataW H × List MemPlace} (h : DataW.trod enc Try.prog w base spare held fuel 39 cs = some x) :
    ∃ a : AD, cs = [.bool a.add, .int .i64 a.id, .slice a.A a.n a.c, .bool a.well] ∧ In64 a.id ∧ IntsIn w a.A a.n a.e := by
  obtain ⟨xs, n, _, _, hl, hxl, hf⟩ := DataW.trod_struct Try.underlying39 h
  rw [cellsAct] at hl
  obtain ⟨c0, c1, c2, c3, rfl⟩ := list4 hl
  obtain ⟨x0, x1, x2, x3, rfl⟩ := list4 hxl
  have g0 := hf 0 _ rfl
  have g1 := hf 1 _ rfl
  have g2 := hf 2 _ rfl
  have g3 := hf 3 _ rfl
  simp [cellsInt, cellsInts, cellsBool] at g0 g1 g2 g3
  obtain ⟨b, rfl⟩ := bool_cell g0
  obtain ⟨z, rfl, hz⟩ := int_cell g1
  obtain ⟨A, m, c, e, h2, he⟩ := ints_cells g2
  obtain ⟨y, rfl⟩ := bool_cell g3
  simp only [List.cons.injEq, and_true] at h2
  subst h2
  exact ⟨⟨b, z, A, m, c, e, y⟩, rfl, hz, he⟩
set_option maxRecDepth 100000 in
theorem open_acts {r : Reach} {b0 : Nat} {v : Value} {d : DataW H} {ps : List MemPlace} (hv : Value.okWide Try.prog w r b0 35 v) (h : DataW.Trod enc Try.prog w base spare held 35 v d ps) :
    ∃ A n c, v = .slice A n c ∧ ∃ f, ActsIn w A n f := by
  obtain ⟨A, n, c, rfl⟩ := okWide_slice Try.underlying35 hv
  obtain ⟨fuel, hf⟩ := h
  refine ⟨A, n, c, rfl, ?_⟩
  rcases open_slice Try.underlying35 hf with ⟨hcs, _⟩ | ⟨ad, len, cap, m, k, D, Pl, hcs, _, hl, hm, hmm, _, hx⟩
  · simp [Value.cells] at hcs
    obtain ⟨_, rfl, _⟩ := hcs
    exact ⟨fun _ => ⟨false, 0, none, 0, 0, fun _ => 0, false⟩, by omega, fun h => by omega⟩
  · simp [Value.cells] at hcs
    obtain ⟨rfl, rfl, rfl⟩ := hcs
    unfold maxLen at hm
    by_cases hn : 0 < n
    · have hnm : n ≤ m := by rw [hmm]; split <;> omega
      rw [cellsAct] at hx
      have each : ∀ i, i < n → ∃ a : AD, (w.cell? (ad.add (i * 4)) = some (.bool a.add) ∧ w.cell? (ad.add (i * 4 + 1)) = some (.int .i64 a.id) ∧ w.cell? (ad.add (i * 4 + 2)) = some (.slice a.A a.n a.c) ∧ w.cell? (ad.add (i * 4 + 3)) = some (.bool a.well)) ∧ In64 a.id ∧ IntsIn w a.A a.n a.e := by
        intro i hi
        obtain ⟨cs', h1, h2⟩ := hx i (by omega)
        obtain ⟨_, hlen, hcell⟩ := World.cells?_some h1
        obtain ⟨a, rfl, ha, hr⟩ := act_cells h2
        have e0 := hcell 0 (by omega)
        have e1 := hcell 1 (by omega)
        have e2 := hcell 2 (by omega)
        have e3 := hcell 3 (by omega)
        rw [add_add] at e0 e1 e2 e3
        exact ⟨a, ⟨by simpa using e0, by simpa using e1, by simpa using e2, by simpa using e3⟩, ha, hr⟩
      obtain ⟨q, hq⟩ := choose_lt each
      obtain ⟨bl, off, spot⟩ := ad
      have h0 := (hq 0 hn).1.1
      have hspot : spot = none := by
        have h0' : w.cell? ⟨bl, off, spot⟩ = some (.bool (q 0).add) := by simpa [Addr.add] using h0
        exact World.cell?_spot h0'
      subst hspot
      refine ⟨q, by omega, fun _ => ⟨bl, off, rfl, fun i hi => ?_⟩⟩
      obtain ⟨⟨g0, g1, g2, g3⟩, g4, g5⟩ := hq i hi
      rw [addr_add] at g0 g1 g2 g3
      exact ⟨g0, by rw [Nat.add_assoc]; exact g1, by rw [Nat.add_assoc]; exact g2, by rw [Nat.add_assoc]; exact g3, g4, g5⟩
    · exact ⟨fun _ => ⟨false, 0, none, 0, 0, fun _ => 0, false⟩, by omega, fun h => absurd h hn⟩
/-- what was handed over lies below -/
theorem ActAt.lt {bl o : Nat} {a : AD} (h : ActAt w bl o a) : bl < w.heap.size := World.block_lt_of_cell? w ⟨bl, o, none⟩ h.c0
theorem ActAt.pass {w' : World} {bl o : Nat} {a : AD} (h : ActAt w bl o a) (hb : Below w.heap.size w w') : w'.cell? ⟨bl, o, none⟩ = some (.bool a.add) ∧ w'.cell? ⟨bl, o + 1, none⟩ = some (.int .i64 a.id) ∧ w'.cell? ⟨bl, o + 2, none⟩ = some (.slice a.A a.n a.c) ∧ w'.cell? ⟨bl, o + 3, none⟩ = some (.bool a.well) := by
  have hh := hb.block bl h.lt
  exact ⟨(World.cell?_of_block hh).trans h.c0, (World.cell?_of_block hh).trans h.c1, (World.cell?_of_block hh).trans h.c2, (World.cell?_of_block hh).trans h.c3⟩
end
end Go.Proofs.Ytecimlbdcldkdaa
