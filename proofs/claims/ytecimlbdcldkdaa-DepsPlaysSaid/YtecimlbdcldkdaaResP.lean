/- Plain: for which jobs each spec of a request waits. No program in sight. -/
import Derived.Test.YtecimlbdcldkdaaOrdP
namespace Go.Proofs.Ytecimlbdcldkdaa.Dep
theorem wt_congr {n : Nat} {a a' : Nat → List Int} (o : List Nat) {k : Nat} (h : a k = a' k) : wt n a o k = wt n a' o k := by unfold wt; rw [h]
theorem Best.congr {n : Nat} {a a' : Nat → List Int} {o : List Nat} {r : Option Nat} (h : ∀ k, k < n → a k = a' k) (b : Best n a o r) : Best n a' o r := by
  cases r with
  | none => exact fun k hk => by rw [← wt_congr o (h k hk)]; exact b k hk
  | some i => exact ⟨b.1, b.2.1, by rw [← wt_congr o (h i b.1)]; exact b.2.2.1, fun k hk => by rw [← wt_congr o (h k (Nat.lt_trans hk b.1))]; exact b.2.2.2 k hk⟩
theorem Run.congr {n : Nat} {a a' : Nat → List Int} {o r : List Nat} {f : Bool} (h : ∀ k, k < n → a k = a' k) (k : Run n a o r f) : Run n a' o r f := by
  induction k with
  | full o ho => exact Run.full o ho
  | stuck o ho b => exact Run.stuck o ho (b.congr h)
  | more o i r f ho b _ ih => exact Run.more o i r f ho (b.congr h) ih

/-- the first job of each spec -/
def fst (nx : Int) (sz : Nat → Int) : Nat → Int
  | 0 => nx
  | k + 1 => fst nx sz k + sz k
theorem fst_range {nx : Int} {sz : Nat → Int} {n : Nat} (h : ∀ k, k < n → 1 ≤ sz k ∧ sz k ≤ 20) : ∀ k, k ≤ n → nx ≤ fst nx sz k ∧ fst nx sz k ≤ nx + 20 * k
  | 0, _ => by unfold fst; omega
  | k + 1, hk => by
    have h1 := fst_range (nx := nx) h k (by omega)
    have h2 := h k (by omega)
    unfold fst
    omega
/-- a number in a row that no job and no spec bears -/
def badN (nx : Int) (n : Nat) (x : Int) : Prop := x = 0 ∨ nx ≤ x ∨ x < -(n : Int)
def argBad (nx : Int) (ns : Nat) (sz : Nat → Int) (n : Nat) : Prop := nx < 1 ∨ 1099511627776 < nx ∨ 8 < ns ∨ n ≠ ns ∨ ∃ k, k < ns ∧ (sz k < 1 ∨ 20 < sz k)
/-- the specs that a row names -/
def spec1 (x : Int) : List Nat := if x < 0 then [(-1 - x).toNat] else []
def job1 (nx : Int) (sz : Nat → Int) (x : Int) : List Nat := if 0 < x then [x.toNat] else List.range' (fst nx sz (-1 - x).toNat).toNat (sz (-1 - x).toNat).toNat
def specsP (e : Nat → Nat → Int) (i j : Nat) : List Nat := (pre e i j).flatMap spec1
def jobsP (nx : Int) (sz : Nat → Int) (e : Nat → Nat → Int) (i j : Nat) : List Nat := (pre e i j).flatMap (job1 nx sz)
theorem specsP_zero {e : Nat → Nat → Int} {i : Nat} : specsP e i 0 = [] := rfl
theorem jobsP_zero {nx : Int} {sz : Nat → Int} {e : Nat → Nat → Int} {i : Nat} : jobsP nx sz e i 0 = [] := rfl
theorem specsP_succ {e : Nat → Nat → Int} {i j : Nat} : specsP e i (j + 1) = specsP e i j ++ spec1 (e i j) := by unfold specsP; rw [pre_succ, List.flatMap_append]; simp
theorem jobsP_succ {nx : Int} {sz : Nat → Int} {e : Nat → Nat → Int} {i j : Nat} : jobsP nx sz e i (j + 1) = jobsP nx sz e i j ++ job1 nx sz (e i j) := by unfold jobsP; rw [pre_succ, List.flatMap_append]; simp
theorem specsP_len (e : Nat → Nat → Int) (i j : Nat) : (specsP e i j).length ≤ j := by
  induction j with
  | zero => simp [specsP_zero]
  | succ j ih =>
    rw [specsP_succ, List.length_append]
    have : (spec1 (e i j)).length ≤ 1 := by unfold spec1; split <;> simp
    omega
theorem jobsP_len {nx : Int} {sz : Nat → Int} {n : Nat} (hs : ∀ k, k < n → 1 ≤ sz k ∧ sz k ≤ 20) (e : Nat → Nat → Int) (i j : Nat) (hb : ∀ p, p < j → ¬ badN nx n (e i p)) : (jobsP nx sz e i j).length ≤ 20 * j := by
  induction j with
  | zero => simp [jobsP_zero]
  | succ j ih =>
    rw [jobsP_succ, List.length_append]
    have h1 := ih fun p hp => hb p (by omega)
    have h2 := hb j (by omega)
    have : (job1 nx sz (e i j)).length ≤ 20 := by
      unfold job1
      split
      · simp
      · rename_i h
        unfold badN at h2
        have h3 := hs (-1 - e i j).toNat (by omega)
        rw [List.length_range']
        omega
    omega
/-- what of the rows is done -/
def Done (nx : Int) (sz : Nat → Int) (n : Nat) (m : Nat → Nat) (e : Nat → Nat → Int) (i : Nat) (ls : Nat → List Nat) : Prop :=
  ∀ k, k < i → ls k = specsP e k (m k) ∧ (ls (n + k)).Pairwise (· < ·) ∧ (∀ x, x ∈ ls (n + k) ↔ x ∈ jobsP nx sz e k (m k)) ∧ ∀ j, j < m k → ¬ badN nx n (e k j)
def Zero (n i : Nat) (ls : Nat → List Nat) : Prop := ∀ k, i ≤ k → k < n → ls k = [] ∧ ls (n + k) = []
end Go.Proofs.Ytecimlbdcldkdaa.Dep
