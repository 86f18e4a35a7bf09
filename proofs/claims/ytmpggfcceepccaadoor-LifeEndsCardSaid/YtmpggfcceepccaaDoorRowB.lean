/- From a row's reading to values: a slice of signs. -/
import Derived.Test.YtmpggfcceepccaaDoorRow
import Derived.Deep.SlicePairs
namespace Go.Proofs.YtmpggfcceepccaaDoor
open Go.ChangeShapes Go.WideShapes Go.ChangeAt Go.RowKit Go.Deep

/-- a slice of n signs that can be read -/
def SignsIn (w : World) (A : Option Addr) (n : Nat) : Prop :=
  n ≤ 9223372036854775807 ∧ (0 < n → ∃ bl off, A = some ⟨bl, off, none⟩ ∧ ∃ a : Nat → Int, ∀ i, i < n → w.cell? ⟨bl, off + i, none⟩ = some (.int .i64 (a i)))

theorem add_at (b off k : Nat) : (⟨b, off, none⟩ : Addr).add k = ⟨b, off + k, none⟩ := by
  unfold Addr.add
  by_cases h : k = 0
  · subst h; simp
  · simp [h]
theorem add_zero' (a : Addr) : a.add 0 = a := by simp [Addr.add]
theorem cellsSign : Tryd.prog.cellsOf 25 = 1 := by kernel_rfl
theorem list1 {α : Type} {l : List α} (h : l.length = 1) : ∃ a, l = [a] := by
  match l, h with
  | [a], _ => exact ⟨a, rfl⟩

section
variable {H : Type} {enc : TypeId × Value → H} {w : World} {base : Nat} {spare : Nat → Bool} {held : Bool}
theorem sign_cell {fuel : Nat} {v : Value} {x : DataW H × List MemPlace} (h : DataW.trod enc Tryd.prog w base spare held fuel 25 [v] = some x) : ∃ n, v = .int .i64 n ∧ In64 n := by
  obtain ⟨n, h1, _, h2⟩ := DataW.trod_int Tryd.underlying25 h
  exact ⟨n, by simpa using h1, bounds_i64 h2⟩
set_option maxRecDepth 100000 in
theorem open_signs {r : Reach} {b0 : Nat} {v : Value} {d : DataW H} {ps : List MemPlace} (hv : Value.okWide Tryd.prog w r b0 38 v) (h : DataW.Trod enc Tryd.prog w base spare held 38 v d ps) :
    ∃ A n c, v = .slice A n c ∧ SignsIn w A n := by
  obtain ⟨A, n, c, rfl⟩ := okWide_slice Tryd.underlying38 hv
  obtain ⟨fuel, hf⟩ := h
  refine ⟨A, n, c, rfl, ?_⟩
  rcases open_slice Tryd.underlying38 hf with ⟨hcs, _⟩ | ⟨ad, len, cap, m, k, D, Pl, hcs, _, hl, hm, hmm, _, hx⟩
  · simp [Value.cells] at hcs
    obtain ⟨_, rfl, _⟩ := hcs
    exact ⟨by omega, fun h => by omega⟩
  · simp [Value.cells] at hcs
    obtain ⟨rfl, rfl, rfl⟩ := hcs
    unfold maxLen at hm
    refine ⟨by omega, fun hn => ?_⟩
    have hnm : n ≤ m := by rw [hmm]; split <;> omega
    rw [cellsSign] at hx
    have each : ∀ i, i < n → ∃ q : Int, w.cell? (ad.add i) = some (.int .i64 q) := by
      intro i hi
      obtain ⟨cs', h1, h2⟩ := hx i (by omega)
      obtain ⟨_, hlen, hcell⟩ := World.cells?_some h1
      obtain ⟨v, rfl⟩ := list1 (l := cs') (by simpa using hlen)
      obtain ⟨a, rfl, _⟩ := sign_cell h2
      have e0 := hcell 0 (by omega)
      rw [add_add] at e0
      exact ⟨a, by simpa using e0⟩
    obtain ⟨q, hq⟩ := choose_lt each
    obtain ⟨bl, off, spot⟩ := ad
    have h0 := hq 0 hn
    have hspot : spot = none := by
      have h0' : w.cell? ⟨bl, off, spot⟩ = some (.int .i64 (q 0)) := by simpa [add_zero'] using h0
      exact World.cell?_spot h0'
    subst hspot
    refine ⟨bl, off, rfl, q, fun i hi => ?_⟩
    have g0 := hq i hi
    rw [add_at] at g0
    exact g0
end
end Go.Proofs.YtmpggfcceepccaaDoor
