/- From a row's reading to the values that the walks speak of: shares, amounts; and back: what was only read reads as it did. -/
import Derived.Test.YtnjgkgnjbmfpfaaRows
import Derived.WalkKit
import Derived.ProofKit
import Derived.OpenShut
import Derived.ChangeOld
import Derived.Below
import Derived.Lib.SmallJoins
namespace Go.Proofs.Ytnjgkgnjbmfpfaa
open Go.ChangeShapes Go.WideShapes Go.ChangeAt Go.RowKit

theorem own_knob : ownKnob Try.prog.godebug = none := by kernel_rfl
theorem laid_out : laidOutB Try.prog = true := by kernel_rfl

/-- a number of the kind int -/
def In64 (n : Int) : Prop := -9223372036854775808 ≤ n ∧ n ≤ 9223372036854775807

theorem list2 {α : Type} {l : List α} (h : l.length = 2) : ∃ a b, l = [a, b] := by
  match l, h with
  | [a, b], _ => exact ⟨a, b, rfl⟩
theorem list4 {α : Type} {l : List α} (h : l.length = 4) : ∃ a b c d, l = [a, b, c, d] := by
  match l, h with
  | [a, b, c, d], _ => exact ⟨a, b, c, d, rfl⟩

theorem cellsShare : Try.prog.cellsOf 23 = 2 := by kernel_rfl
theorem cellsVec : Try.prog.cellsOf 28 = 4 := by kernel_rfl
theorem cellsInt : Try.prog.cellsOf 3 = 1 := by kernel_rfl

section
variable {H : Type} {enc : TypeId × Value → H} {w : World} {base : Nat} {spare : Nat → Bool} {held : Bool}

theorem int_cell {fuel : Nat} {v : Value} {x : DataW H × List MemPlace} (h : DataW.trod enc Try.prog w base spare held fuel 3 [v] = some x) : ∃ n, v = .int .i64 n ∧ In64 n := by
  obtain ⟨n, h1, _, h2⟩ := DataW.trod_int Try.underlying3 h
  exact ⟨n, by simpa using h1, bounds_i64 h2⟩

theorem share_cells {fuel : Nat} {cs : List Value} {x : DataW H × List MemPlace} (h : DataW.trod enc Try.prog w base spare held fuel 23 cs = some x) :
    ∃ a b, cs = [.int .i64 a, .int .i64 b] ∧ In64 a ∧ In64 b := by
  obtain ⟨xs, n, _, _, hl, hxl, hf⟩ := DataW.trod_struct Try.underlying23 h
  rw [cellsShare] at hl
  obtain ⟨c0, c1, rfl⟩ := list2 hl
  obtain ⟨x0, x1, rfl⟩ := list2 hxl
  have g0 := hf 0 _ rfl
  have g1 := hf 1 _ rfl
  simp [cellsInt] at g0 g1
  obtain ⟨a, rfl, ha⟩ := int_cell g0
  obtain ⟨b, rfl, hb⟩ := int_cell g1
  exact ⟨a, b, rfl, ha, hb⟩

theorem vec_cells {fuel : Nat} {cs : List Value} {x : DataW H × List MemPlace} (h : DataW.trod enc Try.prog w base spare held fuel 28 cs = some x) :
    ∃ a b c d, cs = [.int .i64 a, .int .i64 b, .int .i64 c, .int .i64 d] ∧ In64 a ∧ In64 b ∧ In64 c ∧ In64 d := by
  obtain ⟨xs, n, _, _, hl, hxl, hf⟩ := DataW.trod_array Try.underlying28 h
  rw [cellsVec] at hl
  obtain ⟨c0, c1, c2, c3, rfl⟩ := list4 hl
  obtain ⟨x0, x1, x2, x3, rfl⟩ := list4 hxl
  have g0 := hf 0 (by omega)
  have g1 := hf 1 (by omega)
  have g2 := hf 2 (by omega)
  have g3 := hf 3 (by omega)
  simp [cellsInt] at g0 g1 g2 g3
  obtain ⟨a, rfl, ha⟩ := int_cell g0
  obtain ⟨b, rfl, hb⟩ := int_cell g1
  obtain ⟨c, rfl, hc⟩ := int_cell g2
  obtain ⟨d, rfl, hd⟩ := int_cell g3
  exact ⟨a, b, c, d, rfl, ha, hb, hc, hd⟩

theorem okWide_array {P : Program} {r : Reach} {t e : TypeId} {n : Nat} {v : Value} (ht : P.underlying t = some (.array n e)) (h : Value.okWide P w r base t v) : ∃ cs, v = .agg cs := by
  simp only [Value.okWide, ht] at h
  obtain ⟨cs, h1, _, _⟩ := h
  exact ⟨cs, h1⟩

set_option maxRecDepth 100000 in
theorem open_share {r : Reach} {b0 : Nat} {v : Value} {d : DataW H} {ps : List MemPlace} (hv : Value.okWide Try.prog w r b0 23 v) (h : DataW.Trod enc Try.prog w base spare held 23 v d ps) :
    ∃ a b, v = .agg #[.int .i64 a, .int .i64 b] ∧ In64 a ∧ In64 b := by
  obtain ⟨cs, rfl, _⟩ := okWide_struct Try.underlying23 hv
  obtain ⟨fuel, hf⟩ := h
  obtain ⟨a, b, h1, h2⟩ := share_cells hf
  refine ⟨a, b, ?_, h2⟩
  obtain ⟨l⟩ := cs
  simp [Value.cells] at h1
  rw [h1]
set_option maxRecDepth 100000 in
theorem open_vec {r : Reach} {b0 : Nat} {v : Value} {d : DataW H} {ps : List MemPlace} (hv : Value.okWide Try.prog w r b0 28 v) (h : DataW.Trod enc Try.prog w base spare held 28 v d ps) :
    ∃ a b c d, v = .agg #[.int .i64 a, .int .i64 b, .int .i64 c, .int .i64 d] ∧ In64 a ∧ In64 b ∧ In64 c ∧ In64 d := by
  obtain ⟨cs, rfl⟩ := okWide_array Try.underlying28 hv
  obtain ⟨fuel, hf⟩ := h
  obtain ⟨a, b, c, d, h1, h2⟩ := vec_cells hf
  refine ⟨a, b, c, d, ?_, h2⟩
  obtain ⟨l⟩ := cs
  simp [Value.cells] at h1
  rw [h1]

/-- all that was read reads as it did, where a call has only made memory -/
theorem trodAll_below {P : Program} (hl : laidOutB P = true) {W W' : World} (hb : Below W.heap.size W W') : ∀ (ts : List TypeId) (vs : List Value) (ds : List (DataW H)) (ps : List MemPlace),
    DataW.TrodAll enc P W 0 (fun _ => true) true ts vs ds ps → (∀ t ∈ ts, P.readableRec t = true ∧ t < P.types.size) →
    DataW.TrodAll enc P W' 0 (fun b => decide (b < W.heap.size)) true ts vs ds ps
  | [], [], [], _, h, _ => h
  | t :: ts, v :: vs, d :: ds, ps, h, hr => by
    obtain ⟨p, q, h1, h2, rfl⟩ := h
    have lt : ∀ x ∈ p, x.block < W.heap.size := by obtain ⟨m, hm⟩ := h1; exact DataW.trod_lt m _ _ _ hm
    exact ⟨p, q, Below.trod hl (hr t (by simp)).1 (hr t (by simp)).2 h1 hb lt, trodAll_below hl hb ts vs ds q h2 (fun t ht => hr t (by simp [ht])), rfl⟩
end

end Go.Proofs.Ytnjgkgnjbmfpfaa
