/- From a row's reading to values: a slice of shares. -/
import Derived.Test.YtnjgkgnjbmfpfaaRow
import Derived.Deep.SlicePairs
namespace Go.Proofs.Ytnjgkgnjbmfpfaa
open Go.ChangeShapes Go.WideShapes Go.ChangeAt Go.RowKit Go.Deep

/-- a slice of n shares that can be read -/
def SharesIn (w : World) (A : Option Addr) (n : Nat) : Prop :=
  n ≤ 9223372036854775807 ∧ (0 < n → ∃ bl off, A = some ⟨bl, off, none⟩ ∧ ∃ a b : Nat → Int,
    (∀ i, i < n → w.cell? ⟨bl, off + i * 2, none⟩ = some (.int .i64 (a i)) ∧ w.cell? ⟨bl, off + i * 2 + 1, none⟩ = some (.int .i64 (b i))) ∧ ∀ i, a i ≤ 9223372036854775807 ∧ b i ≤ 9223372036854775807)

theorem add_at (b off k : Nat) : (⟨b, off, none⟩ : Addr).add k = ⟨b, off + k, none⟩ := by
  unfold Addr.add
  by_cases h : k = 0
  · subst h; simp
  · simp [h]
theorem add_zero' (a : Addr) : a.add 0 = a := by simp [Addr.add]

section
variable {H : Type} {enc : TypeId × Value → H} {w : World} {base : Nat} {spare : Nat → Bool} {held : Bool}
set_option maxRecDepth 100000 in
theorem open_shares {r : Reach} {b0 : Nat} {v : Value} {d : DataW H} {ps : List MemPlace} (hv : Value.okWide Try.prog w r b0 32 v) (h : DataW.Trod enc Try.prog w base spare held 32 v d ps) :
    ∃ A n c, v = .slice A n c ∧ SharesIn w A n := by
  obtain ⟨A, n, c, rfl⟩ := okWide_slice Try.underlying32 hv
  obtain ⟨fuel, hf⟩ := h
  refine ⟨A, n, c, rfl, ?_⟩
  rcases open_slice Try.underlying32 hf with ⟨hcs, _⟩ | ⟨ad, len, cap, m, k, D, Pl, hcs, _, hl, hm, hmm, _, hx⟩
  · simp [Value.cells] at hcs
    obtain ⟨_, rfl, _⟩ := hcs
    exact ⟨by omega, fun h => by omega⟩
  · simp [Value.cells] at hcs
    obtain ⟨rfl, rfl, rfl⟩ := hcs
    unfold maxLen at hm
    refine ⟨by omega, fun hn => ?_⟩
    have hnm : n ≤ m := by rw [hmm]; split <;> omega
    rw [cellsShare] at hx
    have each : ∀ i, i < n → ∃ q : Int × Int, w.cell? (ad.add (i * 2)) = some (.int .i64 q.1) ∧ w.cell? (ad.add (i * 2 + 1)) = some (.int .i64 q.2) ∧ q.1 ≤ 9223372036854775807 ∧ q.2 ≤ 9223372036854775807 := by
      intro i hi
      obtain ⟨cs', h1, h2⟩ := hx i (by omega)
      obtain ⟨_, hlen, hcell⟩ := World.cells?_some h1
      obtain ⟨a, b, rfl, ha, hb⟩ := share_cells h2
      have e0 := hcell 0 (by omega)
      have e1 := hcell 1 (by omega)
      rw [add_add] at e0 e1
      exact ⟨(a, b), by simpa using e0, by simpa using e1, ha.2, hb.2⟩
    obtain ⟨q, hq⟩ := choose_lt each
    obtain ⟨bl, off, spot⟩ := ad
    have h0 := (hq 0 hn).1
    have hspot : spot = none := by
      have h0' : w.cell? ⟨bl, off, spot⟩ = some (.int .i64 (q 0).1) := by simpa [add_zero'] using h0
      exact World.cell?_spot h0'
    subst hspot
    refine ⟨bl, off, rfl, fun i => if i < n then (q i).1 else 0, fun i => if i < n then (q i).2 else 0, fun i hi => ?_, fun i => ?_⟩
    · obtain ⟨g0, g1, _⟩ := hq i hi
      rw [add_at] at g0 g1
      simp only [if_pos hi]
      exact ⟨g0, by rw [Nat.add_assoc]; exact g1⟩
    · by_cases hi : i < n
      · simp only [if_pos hi]
        exact ⟨(hq i hi).2.2.1, (hq i hi).2.2.2⟩
      · simp [hi]
end
end Go.Proofs.Ytnjgkgnjbmfpfaa
