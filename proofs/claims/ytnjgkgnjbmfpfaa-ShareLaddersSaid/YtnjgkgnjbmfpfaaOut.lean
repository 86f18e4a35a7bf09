/- A row of numbers that grows by append: what stays of it; the law of an append by one number. -/
import Derived.Test.YtnjgkgnjbmfpfaaRows
import Derived.Test.YtnjgkgnjbmfpfaaMem
import Derived.WalkKit
import Derived.OwnWalk
import Derived.OneCell
import Derived.Laws.AppendOwn
namespace Go.Proofs.Ytnjgkgnjbmfpfaa
open Go.RowKit

/-- the row (A, k numbers, cap) of d's first k, in a block of the call's own, not below base -/
def OutRow (w : World) (base k : Nat) (d : Nat → Int) (A : Option Addr) (cap : Nat) : Prop := w.ownsRow base 3 1 (.slice A k cap) k ((List.range k).map fun i => .int .i64 (d i))

theorem OutRow.nil (w : World) (base : Nat) (d : Nat → Int) : OutRow w base 0 d none 0 := World.ownsRow_nil w base _ 1
theorem OutRow.keep {w w' : World} {base k : Nat} {d : Nat → Int} {A : Option Addr} {cap : Nat} (h : OutRow w base k d A cap) (hb : ∀ g, A = some ⟨g, 0, none⟩ → g < w.heap.size → w'.heap[g]? = w.heap[g]?) : OutRow w' base k d A cap := by
  refine ⟨h.1, ?_⟩
  rcases h.2 with h0 | ⟨g, cap', cur, h1, h2, h3, h4⟩
  · exact Or.inl h0
  · refine Or.inr ⟨g, cap', cur, h1, h2, ?_, h4⟩
    have hA : A = some ⟨g, 0, none⟩ := by
      have := h1
      simp only [Value.slice.injEq] at this
      exact this.1
    rw [hb g hA ?_]
    · exact h3
    · rcases Nat.lt_or_ge g w.heap.size with hl | hl
      · exact hl
      · rw [Array.getElem?_eq_none hl] at h3; cases h3
theorem OutRow.pass {w w' : World} {base k : Nat} {d : Nat → Int} {A : Option Addr} {cap : Nat} (h : OutRow w base k d A cap) (hb : Below w.heap.size w w') : OutRow w' base k d A cap := h.keep fun g _ hg => hb.block g hg
theorem OutRow.alloc {w : World} {base k : Nat} {d : Nat → Int} {A : Option Addr} {cap : Nat} (h : OutRow w base k d A cap) (o : Obj) : OutRow (w.alloc o) base k d A cap := h.keep fun g _ hg => Below.heap_alloc w o g hg
theorem OutRow.far {w : World} {base k : Nat} {d : Nat → Int} {A : Option Addr} {cap : Nat} (h : OutRow w base k d A cap) (p : Addr) (hp : ∀ g, A = some ⟨g, 0, none⟩ → g ≠ p.block) (u : Value) : OutRow (w.setCell p u) base k d A cap := h.keep fun g hA _ => Below.heap_setCell w p u g (hp g hA)
theorem OutRow.lt {w : World} {base k : Nat} {d : Nat → Int} {A : Option Addr} {cap : Nat} (h : OutRow w base k d A cap) : ∀ g, A = some ⟨g, 0, none⟩ → base ≤ g ∧ g < w.heap.size := by
  intro g hA
  exact World.ownsRow.lt h g (by rw [hA]; rfl)
theorem OutRow.cell {w : World} {base k : Nat} {d : Nat → Int} {A : Option Addr} {cap : Nat} (h : OutRow w base k d A cap) (hk : 0 < k) : ∃ g, A = some ⟨g, 0, none⟩ ∧ ∀ j, j < k → w.cell? ⟨g, j, none⟩ = some (.int .i64 (d j)) := by
  rcases h.2 with ⟨_, h0⟩ | ⟨g, cap', cur, h1, _⟩
  · omega
  · have hA : A = some ⟨g, 0, none⟩ ∧ cap = cap' := by
      have := h1
      simp only [Value.slice.injEq, true_and] at this
      exact this
    refine ⟨g, hA.1, fun j hj => ?_⟩
    have h' := h
    unfold OutRow at h'
    rw [hA.1] at h'
    rw [World.ownsRow.cellAt h' j (by omega)]
    simp [hj]

theorem infoInt' : (Try.prog.info? 3).map (fun i => (i.zero, i.size, i.bytes)) = some (some (.int .i64 0), 1, 8) := by kernel_rfl
theorem range_snoc (k : Nat) (d : Nat → Int) : (List.range k).map (fun i => Value.int .i64 (d i)) ++ [.int .i64 (d k)] = (List.range (k + 1)).map fun i => Value.int .i64 (d i) := by
  rw [List.range_succ, List.map_append]; rfl

/-- append(out, x): the law as the walk takes it -/
theorem wpList_push (w : World) {ops : Array Oper} {rest : List Oper} {o : Oper} {a : Act} {Q : Exit → Act → World → Prop} (hgd : o.guard = none) (s x : Operand)
    (ho : o.op = .call { callee := .builtin .append, args := #[s, x], argTypes := #[41, 41] })
    (base k : Nat) (d : Nat → Int) (A : Option Addr) (cap : Nat) (hs : a.eval s = .slice A k cap) (hown : OutRow w base k d A cap)
    (g : Nat) (hx : a.eval x = .slice (some ⟨g, 0, none⟩) 1 1) (hc : w.cell? ⟨g, 0, none⟩ = some (.int .i64 (d k))) (hk : k ≤ 1000000) (hb : base ≤ w.heap.size)
    (h : ∀ A' cap' w', OutRow w' base (k + 1) d A' cap' → w.grownBy w' (Value.ownBlock (.slice A k cap)) → wpList Try.prog ops Q rest (a.put o.dst (.slice A' (k + 1) cap')) w') : wpList Try.prog ops Q (o :: rest) a w := by
  obtain ⟨i0, hi, hz0, hz1, hz2⟩ := info_parts infoInt'
  refine wpList_append_own w hgd s x 41 ho base 3 i0 (.int .i64 0) 1 8 Try.underlying41 hi hz0 hz1 hz2 rfl (by decide) (.slice A k cap) k _ hs hown ⟨g, 0, none⟩ 1 1 [.int .i64 (d k)] hx rfl ?_ ?_ (by unfold maxLen; omega) (by omega) hb ?_
  · intro j u hj
    match j, hj with
    | 0, hj =>
      simp at hj
      subst hj
      simpa [Addr.add] using hc
  · intro u hu
    simp at hu
    subst hu
    rfl
  · intro v' w' hown' hgr _
    rw [range_snoc] at hown'
    have hv : ∃ A' cap', v' = .slice A' (k + 1) cap' := by
      rcases hown'.2 with ⟨_, h0⟩ | ⟨g', cap', cur, h1, _⟩
      · omega
      · exact ⟨_, _, h1⟩
    obtain ⟨A', cap', rfl⟩ := hv
    exact h A' cap' w' hown' hgr
theorem below_grown {B : Nat} {w0 w w' : World} {row : Option Nat} (h : Below B w0 w) (hg : w.grownBy w' row) (hB : B ≤ w.heap.size) (hr : ∀ k, row = some k → B ≤ k) : Below B w0 w' := h.grown hg hB hr
end Go.Proofs.Ytnjgkgnjbmfpfaa
