/- From a row's reading to values: a slice of amounts. -/
import Derived.Test.YtnjgkgnjbmfpfaaRowB
namespace Go.Proofs.Ytnjgkgnjbmfpfaa
open Go.ChangeShapes Go.WideShapes Go.ChangeAt Go.RowKit Go.Deep

/-- a slice of n amounts that can be read, of capacity c -/
def VecsIn (w : World) (A : Option Addr) (n c : Nat) : Prop :=
  n ≤ c ∧ c ≤ 9223372036854775807 ∧ (0 < n → ∃ bl off, A = some ⟨bl, off, none⟩ ∧ ∃ v : Nat → Nat → Int,
    (∀ i, i < n → ∀ j, j < 4 → w.cell? ⟨bl, off + i * 4 + j, none⟩ = some (.int .i64 (v i j))) ∧ ∀ i j, v i j ≤ 9223372036854775807)

section
variable {H : Type} {enc : TypeId × Value → H} {w : World} {base : Nat} {spare : Nat → Bool} {held : Bool}
set_option maxRecDepth 100000 in
theorem open_vecs {r : Reach} {b0 : Nat} {v : Value} {d : DataW H} {ps : List MemPlace} (hv : Value.okWide Try.prog w r b0 39 v) (h : DataW.Trod enc Try.prog w base spare held 39 v d ps) :
    ∃ A n c, v = .slice A n c ∧ VecsIn w A n c := by
  obtain ⟨A, n, c, rfl⟩ := okWide_slice Try.underlying39 hv
  obtain ⟨fuel, hf⟩ := h
  refine ⟨A, n, c, rfl, ?_⟩
  rcases open_slice Try.underlying39 hf with ⟨hcs, _⟩ | ⟨ad, len, cap, m, k, D, Pl, hcs, _, hl, hm, hmm, _, hx⟩
  · simp [Value.cells] at hcs
    obtain ⟨_, rfl, rfl⟩ := hcs
    exact ⟨by omega, by omega, fun h => by omega⟩
  · simp [Value.cells] at hcs
    obtain ⟨rfl, rfl, rfl⟩ := hcs
    unfold maxLen at hm
    refine ⟨hl, by omega, fun hn => ?_⟩
    have hnm : n ≤ m := by rw [hmm]; split <;> omega
    rw [cellsVec] at hx
    have each : ∀ i, i < n → ∃ q : Nat → Int, (∀ j, j < 4 → w.cell? (ad.add (i * 4 + j)) = some (.int .i64 (q j))) ∧ ∀ j, q j ≤ 9223372036854775807 := by
      intro i hi
      obtain ⟨cs', h1, h2⟩ := hx i (by omega)
      obtain ⟨_, hlen, hcell⟩ := World.cells?_some h1
      obtain ⟨a, b, c', e, rfl, ha, hb, hc, he⟩ := vec_cells h2
      have e0 := hcell 0 (by omega)
      have e1 := hcell 1 (by omega)
      have e2 := hcell 2 (by omega)
      have e3 := hcell 3 (by omega)
      rw [add_add] at e0 e1 e2 e3
      refine ⟨fun j => if j = 0 then a else if j = 1 then b else if j = 2 then c' else e, fun j hj => ?_, fun j => ?_⟩
      · match j, hj with
        | 0, _ => simpa using e0
        | 1, _ => simpa using e1
        | 2, _ => simpa using e2
        | 3, _ => simpa using e3
      · show (if j = 0 then a else if j = 1 then b else if j = 2 then c' else e) ≤ _
        split
        · exact ha.2
        · split
          · exact hb.2
          · split
            · exact hc.2
            · exact he.2
    obtain ⟨q, hq⟩ := choose_lt each
    obtain ⟨bl, off, spot⟩ := ad
    have h0 := (hq 0 hn).1 0 (by omega)
    have hspot : spot = none := by
      have h0' : w.cell? ⟨bl, off, spot⟩ = some (.int .i64 (q 0 0)) := by simpa [add_zero'] using h0
      exact World.cell?_spot h0'
    subst hspot
    refine ⟨bl, off, rfl, fun i j => if i < n then q i j else 0, fun i hi j hj => ?_, fun i j => ?_⟩
    · have g0 := (hq i hi).1 j hj
      rw [add_at] at g0
      simp only [if_pos hi]
      rw [Nat.add_assoc]
      exact g0
    · by_cases hi : i < n
      · simp only [if_pos hi]
        exact (hq i hi).2 j
      · simp [hi]
end
end Go.Proofs.Ytnjgkgnjbmfpfaa
