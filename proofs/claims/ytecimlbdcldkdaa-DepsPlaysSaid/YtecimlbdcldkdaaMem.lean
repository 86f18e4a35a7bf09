/- Facts on memory for the walks of this seat: a block known whole, carried over new blocks, draws, stores elsewhere. -/
import Derived.WalkKit
import Derived.Lib.Hide
import Derived.Deep.Draws
namespace Go.Proofs.Ytecimlbdcldkdaa
open Go.RowKit

/-- block g is just these cells, of this element type, none frozen -/
def Bk (w : World) (g : Nat) (t : TypeId) (cs : Array Value) : Prop := w.heap[g]? = some (.cells cs t (0, 0))

section
variable {w w' : World} {g : Nat} {t : TypeId} {cs : Array Value}
theorem Bk.lt (h : Bk w g t cs) : g < w.heap.size := by
  unfold Bk at h
  rcases Nat.lt_or_ge g w.heap.size with hl | hl
  · exact hl
  · rw [Array.getElem?_eq_none hl] at h; cases h
theorem Bk.cell (h : Bk w g t cs) {i : Nat} {v : Value} (hv : cs[i]? = some v) : w.cell? ⟨g, i, none⟩ = some v := by
  unfold Bk at h
  unfold World.cell?
  simp [h, hv]
theorem Bk.free (h : Bk w g t cs) (i : Nat) : w.frozen? ⟨g, i, none⟩ = false := by
  unfold Bk at h
  simp [World.frozen?, h]
theorem Bk.new (w : World) (t : TypeId) (cs : Array Value) : Bk (w.alloc (.cells cs t)) w.heap.size t cs := by
  show (w.heap.push _)[w.heap.size]? = _
  simp
theorem Bk.newAt {W : World} (h : W.heap.size = g) : Bk (W.alloc (.cells cs t)) g t cs := by subst h; exact Bk.new W t cs
theorem Bk.drew (h : Bk w g t cs) : Bk w.drew g t cs := h
theorem Bk.alloc (h : Bk w g t cs) (o : Obj) : Bk (w.alloc o) g t cs := (Below.heap_alloc w o g h.lt).trans h
theorem Bk.set (h : Bk w g t cs) (i : Nat) (u : Value) : Bk (w.setCell ⟨g, i, none⟩ u) g t (cs.setIfInBounds i u) := by
  unfold Bk at h ⊢
  simp [World.setCell, Array.getElem?_modify, h]
theorem Bk.far (h : Bk w g t cs) {p : Addr} (hp : g ≠ p.block) (u : Value) : Bk (w.setCell p u) g t cs := (Below.heap_setCell w p u g hp).trans h
theorem Bk.below {B : Nat} (h : Bk w g t cs) (hb : Below B w w') (hg : g < B) : Bk w' g t cs := (hb.block g hg).trans h
theorem Bk.pass (h : Bk w g t cs) (hb : Below w.heap.size w w') : Bk w' g t cs := h.below hb h.lt
theorem Bk.ne {g' : Nat} (h : Bk w g t cs) (hl : w.heap.size ≤ g') : g ≠ g' := by have := h.lt; omega
end

theorem keep_alloc {w : World} {p : Addr} {v : Value} {o : Obj} (h : w.cell? p = some v) : (w.alloc o).cell? p = some v :=
  (World.cell?_alloc_lt w o p (World.block_lt_of_cell? w p h)).trans h
theorem keep_drew {w : World} {p : Addr} {v : Value} (h : w.cell? p = some v) : w.drew.cell? p = some v := h
theorem keep_below {w w' : World} {p : Addr} {v : Value} (h : w.cell? p = some v) (hb : Below w.heap.size w w') : w'.cell? p = some v := (hb.cell (World.block_lt_of_cell? w p h)).trans h

theorem below_drewN {B : Nat} {a w : World} (h : Below B a w) (n : Nat) : Below B a (w.drewN n) := ⟨h.os, h.tape, h.output, h.size, h.block⟩
theorem Bk.drewN {w : World} {g : Nat} {t : TypeId} {cs : Array Value} (h : Bk w g t cs) (n : Nat) : Bk (w.drewN n) g t cs := h
theorem keep_drewN {w : World} {p : Addr} {v : Value} {n : Nat} (h : w.cell? p = some v) : (w.drewN n).cell? p = some v := h
theorem keep_set {w : World} {p q : Addr} {u v : Value} (h : w.cell? p = some v) (hne : q.block ≠ p.block) : (w.setCell q u).cell? p = some v :=
  (World.cell?_setCell_other w q p u (fun e => hne (by rw [e]))).trans h

theorem keepB2 {w w' : World} {p1 p2 : Addr} {v1 v2 : Value} (h : w.cell? p1 = some v1 ∧ w.cell? p2 = some v2) (hb : Below w.heap.size w w') : w'.cell? p1 = some v1 ∧ w'.cell? p2 = some v2 :=
  ⟨keep_below h.1 hb, keep_below h.2 hb⟩
theorem keepA2 {w : World} {o : Obj} {p1 p2 : Addr} {v1 v2 : Value} (h : w.cell? p1 = some v1 ∧ w.cell? p2 = some v2) : (w.alloc o).cell? p1 = some v1 ∧ (w.alloc o).cell? p2 = some v2 :=
  ⟨keep_alloc h.1, keep_alloc h.2⟩
theorem keepB4 {w w' : World} {p1 p2 p3 p4 : Addr} {v1 v2 v3 v4 : Value} (h : w.cell? p1 = some v1 ∧ w.cell? p2 = some v2 ∧ w.cell? p3 = some v3 ∧ w.cell? p4 = some v4) (hb : Below w.heap.size w w') : w'.cell? p1 = some v1 ∧ w'.cell? p2 = some v2 ∧ w'.cell? p3 = some v3 ∧ w'.cell? p4 = some v4 :=
  ⟨keep_below h.1 hb, keep_below h.2.1 hb, keep_below h.2.2.1 hb, keep_below h.2.2.2 hb⟩
theorem keepA4 {w : World} {o : Obj} {p1 p2 p3 p4 : Addr} {v1 v2 v3 v4 : Value} (h : w.cell? p1 = some v1 ∧ w.cell? p2 = some v2 ∧ w.cell? p3 = some v3 ∧ w.cell? p4 = some v4) : (w.alloc o).cell? p1 = some v1 ∧ (w.alloc o).cell? p2 = some v2 ∧ (w.alloc o).cell? p3 = some v3 ∧ (w.alloc o).cell? p4 = some v4 :=
  ⟨keep_alloc h.1, keep_alloc h.2.1, keep_alloc h.2.2.1, keep_alloc h.2.2.2⟩
theorem keepB6 {w w' : World} {p1 p2 p3 p4 p5 p6 : Addr} {v1 v2 v3 v4 v5 v6 : Value} (h : w.cell? p1 = some v1 ∧ w.cell? p2 = some v2 ∧ w.cell? p3 = some v3 ∧ w.cell? p4 = some v4 ∧ w.cell? p5 = some v5 ∧ w.cell? p6 = some v6) (hb : Below w.heap.size w w') : w'.cell? p1 = some v1 ∧ w'.cell? p2 = some v2 ∧ w'.cell? p3 = some v3 ∧ w'.cell? p4 = some v4 ∧ w'.cell? p5 = some v5 ∧ w'.cell? p6 = some v6 :=
  ⟨keep_below h.1 hb, keep_below h.2.1 hb, keep_below h.2.2.1 hb, keep_below h.2.2.2.1 hb, keep_below h.2.2.2.2.1 hb, keep_below h.2.2.2.2.2 hb⟩
theorem keepA6 {w : World} {o : Obj} {p1 p2 p3 p4 p5 p6 : Addr} {v1 v2 v3 v4 v5 v6 : Value} (h : w.cell? p1 = some v1 ∧ w.cell? p2 = some v2 ∧ w.cell? p3 = some v3 ∧ w.cell? p4 = some v4 ∧ w.cell? p5 = some v5 ∧ w.cell? p6 = some v6) : (w.alloc o).cell? p1 = some v1 ∧ (w.alloc o).cell? p2 = some v2 ∧ (w.alloc o).cell? p3 = some v3 ∧ (w.alloc o).cell? p4 = some v4 ∧ (w.alloc o).cell? p5 = some v5 ∧ (w.alloc o).cell? p6 = some v6 :=
  ⟨keep_alloc h.1, keep_alloc h.2.1, keep_alloc h.2.2.1, keep_alloc h.2.2.2.1, keep_alloc h.2.2.2.2.1, keep_alloc h.2.2.2.2.2⟩
theorem keepB8 {w w' : World} {p1 p2 p3 p4 p5 p6 p7 p8 : Addr} {v1 v2 v3 v4 v5 v6 v7 v8 : Value} (h : w.cell? p1 = some v1 ∧ w.cell? p2 = some v2 ∧ w.cell? p3 = some v3 ∧ w.cell? p4 = some v4 ∧ w.cell? p5 = some v5 ∧ w.cell? p6 = some v6 ∧ w.cell? p7 = some v7 ∧ w.cell? p8 = some v8) (hb : Below w.heap.size w w') : w'.cell? p1 = some v1 ∧ w'.cell? p2 = some v2 ∧ w'.cell? p3 = some v3 ∧ w'.cell? p4 = some v4 ∧ w'.cell? p5 = some v5 ∧ w'.cell? p6 = some v6 ∧ w'.cell? p7 = some v7 ∧ w'.cell? p8 = some v8 :=
  ⟨keep_below h.1 hb, keep_below h.2.1 hb, keep_below h.2.2.1 hb, keep_below h.2.2.2.1 hb, keep_below h.2.2.2.2.1 hb, keep_below h.2.2.2.2.2.1 hb, keep_below h.2.2.2.2.2.2.1 hb, keep_below h.2.2.2.2.2.2.2 hb⟩
theorem keepA8 {w : World} {o : Obj} {p1 p2 p3 p4 p5 p6 p7 p8 : Addr} {v1 v2 v3 v4 v5 v6 v7 v8 : Value} (h : w.cell? p1 = some v1 ∧ w.cell? p2 = some v2 ∧ w.cell? p3 = some v3 ∧ w.cell? p4 = some v4 ∧ w.cell? p5 = some v5 ∧ w.cell? p6 = some v6 ∧ w.cell? p7 = some v7 ∧ w.cell? p8 = some v8) : (w.alloc o).cell? p1 = some v1 ∧ (w.alloc o).cell? p2 = some v2 ∧ (w.alloc o).cell? p3 = some v3 ∧ (w.alloc o).cell? p4 = some v4 ∧ (w.alloc o).cell? p5 = some v5 ∧ (w.alloc o).cell? p6 = some v6 ∧ (w.alloc o).cell? p7 = some v7 ∧ (w.alloc o).cell? p8 = some v8 :=
  ⟨keep_alloc h.1, keep_alloc h.2.1, keep_alloc h.2.2.1, keep_alloc h.2.2.2.1, keep_alloc h.2.2.2.2.1, keep_alloc h.2.2.2.2.2.1, keep_alloc h.2.2.2.2.2.2.1, keep_alloc h.2.2.2.2.2.2.2⟩

/-- what a call leaves that makes memory alone -/
theorem below_pass {B : Nat} {a w w' : World} (h : Below B a w) (hB : B ≤ w.heap.size) (hb : Below w.heap.size w w') : Below B a w' := h.trans (hb.mono hB)

theorem ret_int {k : IntKind} {a b : Int} (h : a = b) : Ending.returned (.int k a) = .returned (.int k b) := by rw [h]
theorem ret_bool {a b : Bool} (h : a = b) : Ending.returned (.bool a) = .returned (.bool b) := by rw [h]

end Go.Proofs.Ytecimlbdcldkdaa
