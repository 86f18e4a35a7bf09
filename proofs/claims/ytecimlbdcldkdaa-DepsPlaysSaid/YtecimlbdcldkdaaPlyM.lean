/- A graph and the reference's beside it in memory, and what they tell. -/
import Derived.Test.YtecimlbdcldkdaaPlyP
namespace Go.Proofs.Ytecimlbdcldkdaa
open Go.RowKit Go.Maps Dep

/-- a row of just those of P, rising -/
def RowSaid (P : Nat → Prop) (w : World) (e : Ending) (w' : World) : Prop :=
  ∃ B m c l, e = .returned (.slice B m c) ∧ Hid (FR w' w.heap.size (.slice B m c) l ∧ l.Pairwise (· < ·) ∧ (∀ y, y ∈ l ↔ P y) ∧ m ≤ 1000) ∧ Below w.heap.size w w'
theorem JobsIn.keepB {w w' : World} {A : Option Addr} {r : RS} (h : JobsIn w A r) (hb : ∀ g o, A = some ⟨g, o, none⟩ → g < w.heap.size → w'.heap[g]? = w.heap[g]?) : JobsIn w' A r := fun hn => by
  obtain ⟨bl, off, e, h1⟩ := h hn
  exact ⟨bl, off, e, fun i hi => (h1 i hi).keep (hb bl off e (h1 i hi).lt)⟩
theorem wsP_len (s : GS) (i p k : Nat) : (wsP s i p k).length ≤ (s.ws k).length := by
  unfold wsP
  split
  · exact List.length_filter_le _ _
  · exact Nat.le_refl _
theorem row_len {r : RS} {l : List Nat} (hp : l.Pairwise (· < ·)) (hm : ∀ y, y ∈ l → ∃ i, i < r.N ∧ r.id i = y) : l.length ≤ r.N := by
  have := nodup_sub_len (l2 := (List.range r.N).map r.id) (hp.imp fun h => by omega) fun x hx => by
    obtain ⟨k, hk, e⟩ := hm x hx
    exact List.mem_map.2 ⟨k, List.mem_range.2 hk, e⟩
  simpa using this
/-- both graphs -/
structure PlX (w wr : World) (base G WB : Nat) (d : GD) (s : GS) (r : RS) (A : Option Addr) : Prop where
  gm : Gm wr base d s
  g : d.G = G
  lk : Lk s r
  js : JobsIn wr A r
  ja : ∀ g o, A = some ⟨g, o, none⟩ → ¬ Foot d s g ∧ g ≠ WB
  wb : ∃ v, Bk wr WB 50 #[v]
  wf : ¬ Foot d s WB
  af : AftersIn w r
  bel : Below w.heap.size w wr
  lo : w.heap.size ≤ base ∧ base ≤ WB
  wn : ∀ i, i < s.N → (s.ws i).length ≤ 1000
  i64 : ∀ i, i < r.N → In64 (r.id i : Int)
section
variable {w wr w' : World} {base G WB : Nat} {d : GD} {s : GS} {r : RS} {A : Option Addr}
theorem PlX.sz (h : PlX w wr base G WB d s r A) : WB < wr.heap.size := by obtain ⟨v, h1⟩ := h.wb; exact h1.lt
theorem PlX.keep (h : PlX w wr base G WB d s r A) (hh : ∀ b, b < wr.heap.size → b ≠ WB → w'.heap[b]? = wr.heap[b]?) (hwb : ∃ v, Bk w' WB 50 #[v]) (hbel : Below w.heap.size w w') : PlX w w' base G WB d s r A :=
  ⟨h.gm.keep fun b hb => hh b (h.gm.foot_lt b hb).2 fun e => h.wf (e ▸ hb), h.g, h.lk, h.js.keepB fun g o e hl => hh g hl (h.ja g o e).2, h.ja, hwb, h.wf, h.af, hbel, h.lo, h.wn, h.i64⟩
theorem PlX.pass (h : PlX w wr base G WB d s r A) (hb : Below wr.heap.size wr w') : PlX w w' base G WB d s r A :=
  h.keep (fun b hl _ => hb.block b hl) (by obtain ⟨v, h1⟩ := h.wb; exact ⟨v, h1.pass hb⟩) (below_pass h.bel h.bel.size hb)
theorem PlX.store (h : PlX w wr base G WB d s r A) (v : Value) : PlX w (wr.setCell ⟨WB, 0, none⟩ v) base G WB d s r A ∧ Bk (wr.setCell ⟨WB, 0, none⟩ v) WB 50 #[v] := by
  obtain ⟨v0, h1⟩ := h.wb
  have h2 : Bk (wr.setCell ⟨WB, 0, none⟩ v) WB 50 #[v] := h1.set 0 v
  exact ⟨h.keep (fun b _ hne => Below.heap_setCell wr _ _ b hne) ⟨v, h2⟩ (h.bel.setCell (by have := h.lo; dsimp only; omega) _), h2⟩
theorem PlX.readyA (h : PlX w wr base G WB d s r A) (hN : r.N ≤ 900) : Calls Try.prog 21 #[.pointer (some ⟨G, 0, none⟩)] wr (RowSaid (RdR r) wr) := by
  have hg := h.g
  subst hg
  refine (ready_any h.gm (by rw [h.lk.N]; omega)).mono ?_
  rintro e w' ⟨B, m, c, l, rfl, hF, hp, hm, hb⟩
  have hm' : ∀ y, y ∈ l ↔ RdR r y := fun y => (hm y).trans (h.lk.ready y)
  have hl := row_len hp fun y hy => by obtain ⟨i, hi, e, _⟩ := (hm' y).1 hy; exact ⟨i, hi, e⟩
  exact ⟨B, m, c, l, rfl, Lib.hid ⟨hF, hp, hm', by have := hF.len; omega⟩, hb⟩
theorem PlX.readyB (h : PlX w wr base G WB d s r A) (hN : r.N ≤ 900) (n cap : Nat) (hn : n = r.N) : Calls Try.prog 26 #[.agg #[.slice A n cap]] wr (RowSaid (RdR r) wr) := by
  refine (rready_any h.js (h.af.keep h.bel) h.lk.rw (by omega) n cap hn).mono ?_
  rintro e w' ⟨B, m, c, l, rfl, hF, hp, hm, hl, hb⟩
  exact ⟨B, m, c, l, rfl, Lib.hid ⟨hF, hp, hm, by have := hF.len; omega⟩, hb⟩
theorem PlX.waitsA (h : PlX w wr base G WB d s r A) (hN : r.N ≤ 900) (x : Int) (hx : In64 x) : Calls Try.prog 27 #[.pointer (some ⟨G, 0, none⟩), .int .i64 x] wr (RowSaid (WtR r x) wr) := by
  have hg := h.g
  subst hg
  refine (waits_any h.gm h.wn x hx).mono ?_
  rintro e w' ⟨B, m, c, l, rfl, hF, hp, hm, hb⟩
  have hm' : ∀ y, y ∈ l ↔ WtR r x y := fun y => (hm y).trans (h.lk.waits x y)
  have hl := row_len hp fun y hy => by obtain ⟨i, hi, e, _, j, _, _, k, hk, e2, _⟩ := (hm' y).1 hy; exact ⟨k, hk, e2⟩
  exact ⟨B, m, c, l, rfl, Lib.hid ⟨hF, hp, hm', by have := hF.len; omega⟩, hb⟩
theorem PlX.waitsB (h : PlX w wr base G WB d s r A) (hN : r.N ≤ 900) (n cap : Nat) (hn : n = r.N) (x : Int) : Calls Try.prog 28 #[.agg #[.slice A n cap], .int .i64 x] wr (RowSaid (WtR r x) wr) := by
  refine (rwaits_any h.js (h.af.keep h.bel) h.lk.rw (by omega) n cap hn x).mono ?_
  rintro e w' ⟨B, m, c, l, rfl, hF, hp, hm, hb⟩
  have hl := row_len hp fun y hy => by obtain ⟨i, hi, e, _, j, _, _, k, hk, e2, _⟩ := (hm y).1 hy; exact ⟨k, hk, e2⟩
  exact ⟨B, m, c, l, rfl, Lib.hid ⟨hF, hp, hm, by have := hF.len; omega⟩, hb⟩
end
/-- two rows of the same are the same -/
theorem rows_same {w1 w2 : World} {P : Nat → Prop} {b1 b2 : Nat} {B1 B2 : Option Addr} {m1 m2 c1 c2 : Nat} {l1 l2 : List Nat} (h1 : FR w1 b1 (.slice B1 m1 c1) l1 ∧ l1.Pairwise (· < ·) ∧ (∀ y, y ∈ l1 ↔ P y) ∧ m1 ≤ 1000) (h2 : FR w2 b2 (.slice B2 m2 c2) l2 ∧ l2.Pairwise (· < ·) ∧ (∀ y, y ∈ l2 ↔ P y) ∧ m2 ≤ 1000) : l1 = l2 ∧ m1 = m2 := by
  have e := uniq_rise h1.2.1 h2.2.1 fun y => (h1.2.2.1 y).trans (h2.2.2.1 y).symm
  subst e
  exact ⟨rfl, h1.1.len.trans h2.1.len.symm⟩
end Go.Proofs.Ytecimlbdcldkdaa
