/- The reference's graph in memory: jobs in a row; and where a job lies in it. -/
import Derived.Test.YtecimlbdcldkdaaEndP
import Derived.Test.YtecimlbdcldkdaaIn
import Derived.Deep.CutBlock
import Derived.Deep.RegionHeld3
namespace Go.Proofs.Ytecimlbdcldkdaa
open Go.RowKit Go.Maps Dep

/-- a graph as the reference keeps it: each job's number, for which it waits, whether it is over, well -/
structure RS where
  N : Nat
  id : Nat → Nat
  A : Nat → Option Addr
  n : Nat → Nat
  c : Nat → Nat
  e : Nat → Nat → Int
  ov : Nat → Bool
  wl : Nat → Bool
/-- a job at a place -/
structure JobAt (w : World) (bl o : Nat) (r : RS) (i : Nat) : Prop where
  c0 : w.cell? ⟨bl, o, none⟩ = some (.int .i64 (r.id i : Int))
  c1 : w.cell? ⟨bl, o + 1, none⟩ = some (.slice (r.A i) (r.n i) (r.c i))
  c2 : w.cell? ⟨bl, o + 2, none⟩ = some (.bool (r.ov i))
  c3 : w.cell? ⟨bl, o + 3, none⟩ = some (.bool (r.wl i))
def JobsIn (w : World) (A : Option Addr) (r : RS) : Prop := 0 < r.N → ∃ bl off, A = some ⟨bl, off, none⟩ ∧ ∀ i, i < r.N → JobAt w bl (off + i * 4) r i
def AftersIn (w : World) (r : RS) : Prop := ∀ i, i < r.N → IntsIn w (r.A i) (r.n i) (r.e i)
/-- what every such graph keeps -/
structure RW (r : RS) : Prop where
  inj : ∀ i k, i < r.N → k < r.N → r.id i = r.id k → i = k
  af : ∀ i, i < r.N → ∀ j, j < r.n i → ∃ k, k < r.N ∧ (r.id k : Int) = r.e i j
  n20 : ∀ i, i < r.N → r.n i ≤ 20
section
variable {w w' : World} {A : Option Addr} {r : RS}
theorem JobAt.lt {bl o i : Nat} (h : JobAt w bl o r i) : bl < w.heap.size := World.block_lt_of_cell? w ⟨bl, o, none⟩ h.c0
theorem JobAt.keep {bl o i : Nat} (h : JobAt w bl o r i) (hh : w'.heap[bl]? = w.heap[bl]?) : JobAt w' bl o r i :=
  ⟨(World.cell?_of_block hh).trans h.c0, (World.cell?_of_block hh).trans h.c1, (World.cell?_of_block hh).trans h.c2, (World.cell?_of_block hh).trans h.c3⟩
theorem JobsIn.keep (h : JobsIn w A r) (hb : Below w.heap.size w w') : JobsIn w' A r := fun hn => by
  obtain ⟨bl, off, e, h1⟩ := h hn
  exact ⟨bl, off, e, fun i hi => (h1 i hi).keep (hb.block bl (h1 i hi).lt)⟩
theorem IntsIn.keepR {n : Nat} {e : Nat → Int} (h : IntsIn w A n e) (hb : Below w.heap.size w w') : IntsIn w' A n e :=
  ⟨h.1, fun h0 => by
    obtain ⟨g, o, e1, h1⟩ := h.2.1 h0
    exact ⟨g, o, e1, fun j hj => keep_below (h1 j hj) hb⟩, h.2.2⟩
theorem AftersIn.keep (h : AftersIn w r) (hb : Below w.heap.size w w') : AftersIn w' r := fun i hi => (h i hi).keepR hb
end
/-- where the number x lies: z -/
def AtR (r : RS) (x z : Int) : Prop := (∃ i : Nat, i < r.N ∧ (r.id i : Int) = x ∧ z = (i : Int)) ∨ ((∀ i, i < r.N → (r.id i : Int) ≠ x) ∧ z = -1)
theorem AtR.some {r : RS} {x z : Int} (h : AtR r x z) (hr : RW r) {k : Nat} (hk : k < r.N) (hx : (r.id k : Int) = x) : z = (k : Int) := by
  rcases h with ⟨i, hi, h1, h2⟩ | ⟨h1, _⟩
  · have : i = k := hr.inj i k hi hk (by omega)
    rw [h2, this]
  · exact absurd hx (h1 k hk)
theorem AtR.none {r : RS} {x z : Int} (h : AtR r x z) (hx : ∀ i, i < r.N → (r.id i : Int) ≠ x) : z = -1 := by
  rcases h with ⟨i, hi, h1, h2⟩ | ⟨_, h1⟩
  · exact absurd h1 (hx i hi)
  · exact h1

set_option maxHeartbeats 2000000 in
theorem at_any {w : World} {A : Option Addr} {r : RS} (hJ : JobsIn w A r) (hN : r.N ≤ 1000) (n cap : Nat) (hn : n = r.N) (x : Int) :
    Calls Try.prog 35 #[.agg #[.slice A n cap], .int .i64 x] w fun e w' => (∃ z, e = .returned (.int .i64 z) ∧ AtR r x z) ∧ Below w.heap.size w w' := by
  have H := Lib.hid hJ
  have HN := Lib.hid hn
  have hn1 : (n : Int) ≤ 1000 := by omega
  clear hJ hn
  go_enter Try.func35, Try.ntmps35
  go_wp2_with fail
  go_loopg [5] n (fun g s5 wr => ∃ i : Nat, i ≤ n ∧ g = n - i ∧ s5 = .int .i64 i ∧ Hid ((∀ j, j < i → (r.id j : Int) ≠ x) ∧ Bk wr w.heap.size 50 #[.slice A n cap] ∧ Below w.heap.size w wr))
  case atStart => exact ⟨0, by omega, by omega, rfl, Lib.hid ⟨fun j hj => by omega, Bk.new w _ _, (Below.refl _ _).alloc (Nat.le_refl _) _⟩⟩
  case round =>
    obtain ⟨i, hi, hg, rfl, HI⟩ := hrel
    have cb : wr.cell? ⟨w.heap.size, 0, none⟩ = some (.slice A n cap) := HI.out.2.1.cell rfl
    have i0 : (0 : Int) ≤ (i : Int) := by omega
    by_cases hlt : i < n
    · obtain ⟨bl, off, rfl, hc⟩ := H.out (by have := HN.out; omega)
      have hlt2 : i < r.N := by have := HN.out; omega
      have c0 := ((hc i hlt2).keep (HI.out.2.2.block bl (hc i hlt2).lt)).c0
      obtain ⟨y, hy⟩ : ∃ y, Hid ((r.id i : Int) = y) := ⟨_, Lib.hid rfl⟩
      rw [hy.out] at c0
      clear hc
      have i1 : (i : Int) < (n : Int) := by omega
      by_cases e : y = x
      · have e1 : (y == x) = true := by simp [e]
        have HE := Lib.hid e
        clear e
        go_wp2_with fail
        go_ret
        exact ⟨⟨_, rfl, Or.inl ⟨i, hlt2, hy.out.trans HE.out, rfl⟩⟩, HI.out.2.2⟩
      · have e1 : (y == x) = false := by simp [e]
        have HE := Lib.hid e
        clear e
        go_wp2_with fail
        go_roundg (n - (i + 1))
        case measure => omega
        case rel =>
          refine ⟨i + 1, by omega, rfl, by go_num, Lib.hid ⟨fun j hj => ?_, HI.out.2⟩⟩
          by_cases c : j = i
          · rw [c, hy.out]; exact HE.out
          · exact HI.out.1 j (by omega)
    · obtain rfl : n = i := by omega
      go_wp2_with fail
      go_ret
      exact ⟨⟨_, rfl, Or.inr ⟨fun j hj => HI.out.1 j (by rw [HN.out]; exact hj), rfl⟩⟩, HI.out.2.2⟩
end Go.Proofs.Ytecimlbdcldkdaa
