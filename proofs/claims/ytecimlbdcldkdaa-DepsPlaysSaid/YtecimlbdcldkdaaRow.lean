/- From a row's reading to the values that the walks speak of: rows of rows of numbers; and back: what was only read reads as it did. -/
import Derived.Test.YtecimlbdcldkdaaRows
import Derived.Test.YtecimlbdcldkdaaWk
import Derived.WalkKit
import Derived.ProofKit
import Derived.OpenShut
import Derived.ChangeOld
import Derived.Below
import Derived.Lib.SmallJoins
import Derived.Deep.SlicePairs
namespace Go.Proofs.Ytecimlbdcldkdaa
open Go.ChangeShapes Go.WideShapes Go.ChangeAt Go.RowKit Go.Deep

theorem own_knob : ownKnob Try.prog.godebug = none := by kernel_rfl
theorem laid_out : laidOutB Try.prog = true := by kernel_rfl

/-- a number of the kind int -/
def In64 (n : Int) : Prop := -9223372036854775808 ≤ n ∧ n ≤ 9223372036854775807

theorem list1 {α : Type} {l : List α} (h : l.length = 1) : ∃ a, l = [a] := by
  match l, h with
  | [a], _ => exact ⟨a, rfl⟩
theorem cellsInt : Try.prog.cellsOf 3 = 1 := by kernel_rfl
theorem cellsInts : Try.prog.cellsOf 25 = 1 := by kernel_rfl
theorem addr_add (b off k : Nat) : (⟨b, off, none⟩ : Addr).add k = ⟨b, off + k, none⟩ := by
  unfold Addr.add
  by_cases h : k = 0
  · subst h; simp
  · simp [h]

/-- n numbers of a slice that can be read, each of the kind int -/
def IntsIn (w : World) (A : Option Addr) (n : Nat) (e : Nat → Int) : Prop := n ≤ 9223372036854775807 ∧ NumsAt w A n e ∧ ∀ j, In64 (e j)
/-- n rows of numbers that can be read -/
def RowsIn (w : World) (A : Option Addr) (n : Nat) (m : Nat → Nat) (e : Nat → Nat → Int) : Prop :=
  n ≤ 9223372036854775807 ∧ (0 < n → ∃ bl off, A = some ⟨bl, off, none⟩ ∧ ∀ i, i < n → ∃ Ai ci, w.cell? ⟨bl, off + i, none⟩ = some (.slice Ai (m i) ci) ∧ IntsIn w Ai (m i) (e i))

section
variable {H : Type} {enc : TypeId × Value → H} {w : World} {base : Nat} {spare : Nat → Bool} {held : Bool}

theorem int_cell {fuel : Nat} {v : Value} {x : DataW H × List MemPlace} (h : DataW.trod enc Try.prog w base spare held fuel 3 [v] = some x) : ∃ n, v = .int .i64 n ∧ In64 n := by
  obtain ⟨n, h1, _, h2⟩ := DataW.trod_int Try.underlying3 h
  exact ⟨n, by simpa using h1, bounds_i64 h2⟩

theorem ints_cells {fuel : Nat} {cs : List Value} {x : DataW H × List MemPlace} (h : DataW.trod enc Try.prog w base spare held fuel 25 cs = some x) :
    ∃ A n c e, cs = [.slice A n c] ∧ IntsIn w A n e := by
  rcases open_slice Try.underlying25 h with ⟨hcs, _⟩ | ⟨ad, len, cap, m, k, D, Pl, hcs, _, hl, hm, hmm, _, hx⟩
  · exact ⟨none, 0, 0, fun _ => 0, hcs, by omega, fun h => by omega, fun _ => ⟨by show (-9223372036854775808 : Int) ≤ 0; omega, by show (0 : Int) ≤ _; omega⟩⟩
  · unfold maxLen at hm
    by_cases hn : 0 < len
    · have hnm : len ≤ m := by rw [hmm]; split <;> omega
      rw [cellsInt] at hx
      have each : ∀ i, i < len → ∃ q : Int, w.cell? (ad.add i) = some (.int .i64 q) ∧ In64 q := by
        intro i hi
        obtain ⟨cs', h1, h2⟩ := hx i (by omega)
        obtain ⟨_, hlen, hcell⟩ := World.cells?_some h1
        obtain ⟨v, rfl⟩ := list1 (l := cs') (by simpa using hlen)
        obtain ⟨a, rfl, ha⟩ := int_cell h2
        have e0 := hcell 0 (by omega)
        rw [add_add] at e0
        exact ⟨a, by simpa using e0, ha⟩
      obtain ⟨q, hq⟩ := choose_lt each
      obtain ⟨bl, off, spot⟩ := ad
      have h0 := (hq 0 hn).1
      have hspot : spot = none := by
        have h0' : w.cell? ⟨bl, off, spot⟩ = some (.int .i64 (q 0)) := by simpa [Addr.add] using h0
        exact World.cell?_spot h0'
      subst hspot
      refine ⟨some ⟨bl, off, none⟩, len, cap, fun i => if i < len then q i else 0, hcs, by omega, fun _ => ⟨bl, off, rfl, fun i hi => ?_⟩, fun i => ?_⟩
      · have g0 := (hq i hi).1
        rw [addr_add] at g0
        simp only [if_pos hi]
        exact g0
      · by_cases hi : i < len
        · simp only [if_pos hi]
          exact (hq i hi).2
        · simp only [if_neg hi]
          exact ⟨by omega, by omega⟩
    · exact ⟨some ad, len, cap, fun _ => 0, hcs, by omega, fun h => absurd h hn, fun _ => ⟨by show (-9223372036854775808 : Int) ≤ 0; omega, by show (0 : Int) ≤ _; omega⟩⟩

theorem open_num {r : Reach} {b0 : Nat} {v : Value} {d : DataW H} {ps : List MemPlace} (hv : Value.okWide Try.prog w r b0 3 v) (h : DataW.Trod enc Try.prog w base spare held 3 v d ps) :
    ∃ n, v = .int .i64 n ∧ In64 n := by
  obtain ⟨a, rfl, _, _, wa⟩ := open_int Try.underlying3 hv h
  exact ⟨a, rfl, bounds_i64 wa⟩
theorem open_flag {r : Reach} {b0 : Nat} {v : Value} {d : DataW H} {ps : List MemPlace} (hv : Value.okWide Try.prog w r b0 4 v) (h : DataW.Trod enc Try.prog w base spare held 4 v d ps) :
    ∃ b, v = .bool b := by
  obtain ⟨b, rfl, _, _⟩ := open_bool Try.underlying4 hv h
  exact ⟨b, rfl⟩
set_option maxRecDepth 100000 in
theorem open_ints' {r : Reach} {b0 : Nat} {v : Value} {d : DataW H} {ps : List MemPlace} (hv : Value.okWide Try.prog w r b0 25 v) (h : DataW.Trod enc Try.prog w base spare held 25 v d ps) :
    ∃ A n c, v = .slice A n c ∧ ∃ e, IntsIn w A n e := by
  obtain ⟨A, n, c, rfl⟩ := okWide_slice Try.underlying25 hv
  obtain ⟨fuel, hf⟩ := h
  obtain ⟨A', n', c', e, h1, h2⟩ := ints_cells hf
  simp [Value.cells] at h1
  obtain ⟨rfl, rfl, rfl⟩ := h1
  exact ⟨A, n, c, rfl, e, h2⟩
set_option maxRecDepth 100000 in
theorem open_intss {r : Reach} {b0 : Nat} {v : Value} {d : DataW H} {ps : List MemPlace} (hv : Value.okWide Try.prog w r b0 22 v) (h : DataW.Trod enc Try.prog w base spare held 22 v d ps) :
    ∃ A n c, v = .slice A n c ∧ ∃ m e, RowsIn w A n m e := by
  obtain ⟨A, n, c, rfl⟩ := okWide_slice Try.underlying22 hv
  obtain ⟨fuel, hf⟩ := h
  refine ⟨A, n, c, rfl, ?_⟩
  rcases open_slice Try.underlying22 hf with ⟨hcs, _⟩ | ⟨ad, len, cap, m, k, D, Pl, hcs, _, hl, hm, hmm, _, hx⟩
  · simp [Value.cells] at hcs
    obtain ⟨_, rfl, _⟩ := hcs
    exact ⟨fun _ => 0, fun _ _ => 0, by omega, fun h => by omega⟩
  · simp [Value.cells] at hcs
    obtain ⟨rfl, rfl, rfl⟩ := hcs
    unfold maxLen at hm
    by_cases hn : 0 < n
    · have hnm : n ≤ m := by rw [hmm]; split <;> omega
      rw [cellsInts] at hx
      have each : ∀ i, i < n → ∃ q : Option Addr × Nat × Nat × (Nat → Int), w.cell? (ad.add i) = some (.slice q.1 q.2.1 q.2.2.1) ∧ IntsIn w q.1 q.2.1 q.2.2.2 := by
        intro i hi
        obtain ⟨cs', h1, h2⟩ := hx i (by omega)
        obtain ⟨_, hlen, hcell⟩ := World.cells?_some h1
        obtain ⟨Ai, ni, ci, e, rfl, he⟩ := ints_cells h2
        have e0 := hcell 0 (by omega)
        rw [add_add] at e0
        exact ⟨(Ai, ni, ci, e), by simpa using e0, he⟩
      obtain ⟨q, hq⟩ := choose_lt each
      obtain ⟨bl, off, spot⟩ := ad
      have h0 := (hq 0 hn).1
      have hspot : spot = none := by
        have h0' : w.cell? ⟨bl, off, spot⟩ = some (.slice (q 0).1 (q 0).2.1 (q 0).2.2.1) := by simpa [Addr.add] using h0
        exact World.cell?_spot h0'
      subst hspot
      refine ⟨fun i => (q i).2.1, fun i => (q i).2.2.2, by omega, fun _ => ⟨bl, off, rfl, fun i hi => ⟨(q i).1, (q i).2.2.1, ?_, (hq i hi).2⟩⟩⟩
      have g0 := (hq i hi).1
      rw [addr_add] at g0
      exact g0
    · exact ⟨fun _ => 0, fun _ _ => 0, by omega, fun h => absurd h hn⟩

/-- all that was read reads as it did, where a call has only made memory -/
theorem trodAll_below {P : Program} (hl : laidOutB P = true) {W W' : World} (hb : Below W.heap.size W W') : ∀ (ts : List TypeId) (vs : List Value) (ds : List (DataW H)) (ps : List MemPlace),
    DataW.TrodAll enc P W 0 (fun _ => true) true ts vs ds ps → (∀ t ∈ ts, P.readableRec t = true ∧ t < P.types.size) →
    DataW.TrodAll enc P W' 0 (fun b => decide (b < W.heap.size)) true ts vs ds ps
  | [], [], [], _, h, _ => h
  | t :: ts, v :: vs, d :: ds, ps, h, hr => by
    obtain ⟨p, q, h1, h2, rfl⟩ := h
    have lt : ∀ x ∈ p, x.block < W.heap.size := by obtain ⟨m, hm⟩ := h1; exact DataW.trod_lt m _ _ _ hm
    exact ⟨p, q, Below.trod hl (hr t (by simp)).1 (hr t (by simp)).2 h1 hb lt, trodAll_below hl hb ts vs ds q h2 (fun t ht => hr t (by simp [ht])), rfl⟩
end

end Go.Proofs.Ytecimlbdcldkdaa
