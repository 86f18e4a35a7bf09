/- From a row's reading to the values that the walks speak of: a life, a sign, a number, a flag, signs; the laid names. -/
import Derived.Test.YtmpggfcceepccaaDoorWd
import Derived.Test.YtmpggfcceepccaaDoorTie
import Derived.WalkKit
import Derived.ProofKit
import Derived.OpenShut
import Derived.ChangeOld
import Derived.Below
import Derived.Lib.SmallJoins
import Derived.LaidMore
import Derived.Stop.Joined
import Derived.Lay
import Derived.LaidOnce
import Derived.SevenTiedAt
namespace Go.Proofs.YtmpggfcceepccaaDoor
open Go.ChangeShapes Go.WideShapes Go.ChangeAt Go.RowKit Go.WideElems

theorem own_knob : ownKnob Tryd.prog.godebug = none := by kernel_rfl
theorem laid_out : laidOutB Tryd.prog = true := by kernel_rfl

def In64 (n : Int) : Prop := -9223372036854775808 ≤ n ∧ n ≤ 9223372036854775807

theorem list5 {α : Type} {l : List α} (h : l.length = 5) : ∃ a b c d e, l = [a, b, c, d, e] := by
  match l, h with
  | [a, b, c, d, e], _ => exact ⟨a, b, c, d, e, rfl⟩
theorem list9 {α : Type} {l : List α} (h : l.length = 9) : ∃ a b c d e f g i j, l = [a, b, c, d, e, f, g, i, j] := by
  match l, h with
  | [a, b, c, d, e, f, g, i, j], _ => exact ⟨a, b, c, d, e, f, g, i, j, rfl⟩

theorem cellsLife : Tryd.prog.cellsOf 24 = 5 := by kernel_rfl
theorem cellsState : Tryd.prog.cellsOf 22 = 1 := by kernel_rfl
theorem cellsInt : Tryd.prog.cellsOf 3 = 1 := by kernel_rfl
theorem cellsBool : Tryd.prog.cellsOf 4 = 1 := by kernel_rfl
theorem cellsString : Tryd.prog.cellsOf 9 = 1 := by kernel_rfl
theorem cellsNames : Tryd.prog.cellsOf 45 = 9 := by kernel_rfl

section
variable {H : Type} {enc : TypeId × Value → H} {w : World} {base : Nat} {spare : Nat → Bool} {held : Bool}

theorem int_cell {fuel : Nat} {v : Value} {x : DataW H × List MemPlace} (h : DataW.trod enc Tryd.prog w base spare held fuel 3 [v] = some x) : ∃ n, v = .int .i64 n ∧ In64 n := by
  obtain ⟨n, h1, _, h2⟩ := DataW.trod_int Tryd.underlying3 h
  exact ⟨n, by simpa using h1, bounds_i64 h2⟩
theorem state_cell {fuel : Nat} {v : Value} {x : DataW H × List MemPlace} (h : DataW.trod enc Tryd.prog w base spare held fuel 22 [v] = some x) : ∃ n, v = .int .i64 n ∧ In64 n := by
  obtain ⟨n, h1, _, h2⟩ := DataW.trod_int Tryd.underlying22 h
  exact ⟨n, by simpa using h1, bounds_i64 h2⟩
theorem bool_cell {fuel : Nat} {v : Value} {x : DataW H × List MemPlace} (h : DataW.trod enc Tryd.prog w base spare held fuel 4 [v] = some x) : ∃ b, v = .bool b := by
  obtain ⟨n, h1, _⟩ := DataW.trod_bool Tryd.underlying4 h
  exact ⟨n, by simpa using h1⟩
theorem str_cell {fuel : Nat} {v : Value} {x : DataW H × List MemPlace} {b : List UInt8} (h : DataW.trod enc Tryd.prog w base spare held fuel 9 [v] = some x) (hx : x.1 = .lit (.string b)) : v = .string ⟨b.toArray⟩ := by
  obtain ⟨s, h1, h2, _⟩ := DataW.trod_string Tryd.underlying9 h
  rw [h2] at hx
  simp at hx h1
  rw [h1, ← hx]

theorem life_cells {fuel : Nat} {cs : List Value} {x : DataW H × List MemPlace} (h : DataW.trod enc Tryd.prog w base spare held fuel 24 cs = some x) :
    ∃ s a l y z, cs = [.int .i64 s, .int .i64 a, .int .i64 l, .bool y, .bool z] ∧ In64 s ∧ In64 a ∧ In64 l := by
  obtain ⟨xs, n, _, _, hl, hxl, hf⟩ := DataW.trod_struct Tryd.underlying24 h
  rw [cellsLife] at hl
  obtain ⟨c0, c1, c2, c3, c4, rfl⟩ := list5 hl
  obtain ⟨x0, x1, x2, x3, x4, rfl⟩ := list5 hxl
  have g0 := hf 0 _ rfl
  have g1 := hf 1 _ rfl
  have g2 := hf 2 _ rfl
  have g3 := hf 3 _ rfl
  have g4 := hf 4 _ rfl
  simp [cellsInt, cellsState, cellsBool] at g0 g1 g2 g3 g4
  obtain ⟨s, rfl, hs⟩ := state_cell g0
  obtain ⟨a, rfl, ha⟩ := int_cell g1
  obtain ⟨l, rfl, hk⟩ := int_cell g2
  obtain ⟨y, rfl⟩ := bool_cell g3
  obtain ⟨z, rfl⟩ := bool_cell g4
  exact ⟨s, a, l, y, z, rfl, hs, ha, hk⟩

set_option maxRecDepth 100000 in
theorem open_life {r : Reach} {b0 : Nat} {v : Value} {d : DataW H} {ps : List MemPlace} (hv : Value.okWide Tryd.prog w r b0 24 v) (h : DataW.Trod enc Tryd.prog w base spare held 24 v d ps) :
    ∃ s a l y z, v = .agg #[.int .i64 s, .int .i64 a, .int .i64 l, .bool y, .bool z] ∧ In64 s ∧ In64 a ∧ In64 l := by
  obtain ⟨cs, rfl, _⟩ := okWide_struct Tryd.underlying24 hv
  obtain ⟨fuel, hf⟩ := h
  obtain ⟨s, a, l, y, z, h1, h2⟩ := life_cells hf
  refine ⟨s, a, l, y, z, ?_, h2⟩
  obtain ⟨l⟩ := cs
  simp [Value.cells] at h1
  rw [h1]
theorem open_num {r : Reach} {b0 : Nat} {v : Value} {d : DataW H} {ps : List MemPlace} (hv : Value.okWide Tryd.prog w r b0 3 v) (h : DataW.Trod enc Tryd.prog w base spare held 3 v d ps) :
    ∃ n, v = .int .i64 n ∧ In64 n := by
  obtain ⟨a, rfl, _, _, wa⟩ := open_int Tryd.underlying3 hv h
  exact ⟨a, rfl, bounds_i64 wa⟩
theorem open_sign {r : Reach} {b0 : Nat} {v : Value} {d : DataW H} {ps : List MemPlace} (hv : Value.okWide Tryd.prog w r b0 25 v) (h : DataW.Trod enc Tryd.prog w base spare held 25 v d ps) :
    ∃ n, v = .int .i64 n ∧ In64 n := by
  obtain ⟨a, rfl, _, _, wa⟩ := open_int Tryd.underlying25 hv h
  exact ⟨a, rfl, bounds_i64 wa⟩
theorem open_flag {r : Reach} {b0 : Nat} {v : Value} {d : DataW H} {ps : List MemPlace} (hv : Value.okWide Tryd.prog w r b0 4 v) (h : DataW.Trod enc Tryd.prog w base spare held 4 v d ps) :
    ∃ b, v = .bool b := by
  obtain ⟨b, rfl, _, _⟩ := open_bool Tryd.underlying4 hv h
  exact ⟨b, rfl⟩

/-- all that was read reads as it did, where a call has only made memory -/
theorem trodAll_below {P : Program} (hl : laidOutB P = true) {W W' : World} (hb : Below W.heap.size W W') : ∀ (ts : List TypeId) (vs : List Value) (ds : List (DataW H)) (ps : List MemPlace),
    DataW.TrodAll enc P W 0 (fun _ => true) true ts vs ds ps → (∀ t ∈ ts, P.readableRec t = true ∧ t < P.types.size) →
    DataW.TrodAll enc P W' 0 (fun b => decide (b < W.heap.size)) true ts vs ds ps
  | [], [], [], _, h, _ => h
  | t :: ts, v :: vs, d :: ds, ps, h, hr => by
    obtain ⟨p, q, h1, h2, rfl⟩ := h
    have lt : ∀ x ∈ p, x.block < W.heap.size := by obtain ⟨m, hm⟩ := h1; exact DataW.trod_lt m _ _ _ hm
    exact ⟨p, q, Below.trod hl (hr t (by simp)).1 (hr t (by simp)).2 h1 hb lt, trodAll_below hl hb ts vs ds q h2 (fun t ht => hr t (by simp [ht])), rfl⟩
end

abbrev laidN : List (String × DataW Unit) := [("corvee/life.names", Rows.laid_corvee_life_names)]
theorem gNames : Tryd.prog.globalNamed "corvee/life.names" = some 0 := by kernel_rfl
theorem tNames : (Tryd.prog.globals[0]?).map (·.type) = some 45 := by kernel_rfl

theorem nms_of_laid {W : World} (h : laidMetH Tryd.prog laidN W) : Nms W := by
  rw [MakeChecks.laidMetH_plain _ _ _ (by kernel_rfl)] at h
  obtain ⟨ps, ⟨g0, t0, cs0, f0, p0, q0, hg0, ht0, hv0, hd0, _⟩, _⟩ := h
  obtain rfl := Option.some.inj (gNames.symm.trans hg0)
  obtain rfl := Option.some.inj (tNames.symm.trans ht0)
  obtain ⟨xs, m, rfl, hx, hlen, hn, hel⟩ := DataW.trod_array Tryd.underlying45 hd0
  rw [cellsNames] at hlen
  obtain ⟨c0, c1, c2, c3, c4, c5, c6, c7, c8, hc⟩ := list9 hlen
  obtain ⟨x0, x1, x2, x3, x4, x5, x6, x7, x8, rfl⟩ := list9 hn
  rw [hc] at hel
  simp only [Rows.laid_corvee_life_names, List.map_cons, List.map_nil, Prod.mk.injEq, DataW.agg.injEq, List.cons.injEq] at hx
  obtain ⟨⟨y0, y1, y2, y3, y4, y5, y6, y7, y8, _⟩, _⟩ := hx
  have e0 := hel 0 (by omega)
  have e1 := hel 1 (by omega)
  have e2 := hel 2 (by omega)
  have e3 := hel 3 (by omega)
  have e4 := hel 4 (by omega)
  have e5 := hel 5 (by omega)
  have e6 := hel 6 (by omega)
  have e7 := hel 7 (by omega)
  have e8 := hel 8 (by omega)
  simp [cellsString] at e0 e1 e2 e3 e4 e5 e6 e7 e8
  have z0 := str_cell e0 y0.symm
  have z1 := str_cell e1 y1.symm
  have z2 := str_cell e2 y2.symm
  have z3 := str_cell e3 y3.symm
  have z4 := str_cell e4 y4.symm
  have z5 := str_cell e5 y5.symm
  have z6 := str_cell e6 y6.symm
  have z7 := str_cell e7 y7.symm
  have z8 := str_cell e8 y8.symm
  subst z0 z1 z2 z3 z4 z5 z6 z7 z8
  intro i hi
  have hv := World.var?_cell hg0 hv0 i
  rw [hv, ← Array.getElem?_toList, hc]
  match i, hi with
  | 0, _ => rfl
  | 1, _ => rfl
  | 2, _ => rfl
  | 3, _ => rfl
  | 4, _ => rfl
  | 5, _ => rfl
  | 6, _ => rfl
  | 7, _ => rfl
  | 8, _ => rfl

end Go.Proofs.YtmpggfcceepccaaDoor
