/- What deps.Resolve keeps in memory; deps.Cyclic. -/
import Derived.Test.YtecimlbdcldkdaaRord
import Derived.Test.YtecimlbdcldkdaaSfr
import Derived.Test.YtecimlbdcldkdaaResP
namespace Go.Proofs.Ytecimlbdcldkdaa
open Go.RowKit Dep

structure Sr (w0 W : World) (L S n : Nat) (ft : Nat → Int) (rows : Nat → Value) (ls : Nat → List Nat) : Prop where
  blocks : w0.heap.size ≤ L ∧ L < S
  first : ValB W 3 L (n + 1) fun k => .int .i64 (ft k)
  specs : ValB W 25 (S) n rows
  jobs : ValB W 25 (S + 1) n fun k => rows (n + k)
  fam : Fam W (S + 2) (n + n) rows ls
  bel : Below w0.heap.size w0 W
section
variable {w0 W W' : World} {L S n : Nat} {ft : Nat → Int} {rows : Nat → Value} {ls : Nat → List Nat}
theorem Sr.heap (h : Sr w0 W L S n ft rows ls) (hh : W'.heap = W.heap) (hb : Below w0.heap.size w0 W') : Sr w0 W' L S n ft rows ls :=
  ⟨h.blocks, h.first.keep (by rw [hh]), h.specs.keep (by rw [hh]), h.jobs.keep (by rw [hh]), h.fam.keep fun g _ _ => by rw [hh], hb⟩
theorem Sr.drewN (h : Sr w0 W L S n ft rows ls) (q : Nat) : Sr w0 (W.drewN q) L S n ft rows ls := h.heap rfl (below_drewN h.bel q)
theorem Sr.drew (h : Sr w0 W L S n ft rows ls) : Sr w0 W.drew L S n ft rows ls := h.heap rfl h.bel.drew
theorem Sr.grown (h : Sr w0 W L S n ft rows ls) {i : Nat} (hi : i < n + n) {r : Value} {l : List Nat} (hg : W.grownBy W' (rows i).ownBlock) (hF : FR W' (S + 2) r l) (hr : Fresh W (rows i) r) :
    ValB W' 3 L (n + 1) (fun k => .int .i64 (ft k)) ∧ ValB W' 25 (S) n rows ∧ ValB W' 25 (S + 1) n (fun k => rows (n + k)) ∧ Fam W' (S + 2) (n + n) (upd rows i r) (upd ls i l) ∧ Below w0.heap.size w0 W' := by
  have ho : ∀ g, (rows i).ownBlock = some g → S + 2 ≤ g := fun g hg => ((h.fam.1 i hi).lt g hg).1
  refine ⟨h.first.keep (hg.block _ h.first.lt fun c => ?_), h.specs.keep (hg.block _ h.specs.lt fun c => ?_), h.jobs.keep (hg.block _ h.jobs.lt fun c => ?_), h.fam.step hi hg hF hr, h.bel.grown hg h.bel.size fun k hk => ?_⟩
  · have := ho _ c.symm; have := h.blocks; omega
  · have := ho _ c.symm; have := h.blocks; omega
  · have := ho _ c.symm; have := h.blocks; omega
  · have := ho k hk; have := h.blocks; omega
theorem Sr.storeS (h : Sr w0 W L S n ft rows ls) {i : Nat} (hi : i < n) {r : Value} {l : List Nat} (hg : W.grownBy W' (rows i).ownBlock) (hF : FR W' (S + 2) r l) (hr : Fresh W (rows i) r) :
    W'.cell? ⟨S, i, none⟩ = some (rows i) ∧ W'.frozen? ⟨S, i, none⟩ = false ∧ Sr w0 (W'.setCell ⟨S, i, none⟩ r) L S n ft (upd rows i r) (upd ls i l) := by
  obtain ⟨a1, a2, a3, a4, a5⟩ := h.grown (by omega) hg hF hr
  exact ⟨a2.cell hi, a2.free i, h.blocks, a1.keep (Below.heap_setCell W' _ _ _ (by have := h.blocks; simp; omega)), a2.set hi r, (a3.keep (Below.heap_setCell W' _ _ _ (by simp))).congr fun k hk => (upd_other _ _ (by omega)).symm, a4.keep fun g hg _ => Below.heap_setCell W' _ _ _ (by simp; omega), a5.setCell (by have := h.blocks; dsimp only; omega) _⟩
theorem Sr.storeJ (h : Sr w0 W L S n ft rows ls) {i : Nat} (hi : i < n) {r : Value} {l : List Nat} (hg : W.grownBy W' (rows (n + i)).ownBlock) (hF : FR W' (S + 2) r l) (hr : Fresh W (rows (n + i)) r) :
    W'.cell? ⟨S + 1, i, none⟩ = some (rows (n + i)) ∧ W'.frozen? ⟨S + 1, i, none⟩ = false ∧ Sr w0 (W'.setCell ⟨S + 1, i, none⟩ r) L S n ft (upd rows (n + i) r) (upd ls (n + i) l) := by
  obtain ⟨a1, a2, a3, a4, a5⟩ := h.grown (by omega) hg hF hr
  refine ⟨a3.cell hi, a3.free i, h.blocks, a1.keep (Below.heap_setCell W' _ _ _ (by have := h.blocks; simp; omega)), (a2.keep (Below.heap_setCell W' _ _ _ (by simp))).congr fun k hk => (upd_other _ _ (by omega)).symm, (a3.set hi r).congr fun k hk => ?_, a4.keep fun g hg _ => Below.heap_setCell W' _ _ _ (by simp; omega), a5.setCell (by have := h.blocks; dsimp only; omega) _⟩
  unfold upd
  by_cases e : k = i
  · rw [if_pos e, if_pos (by omega)]
  · rw [if_neg e, if_neg (by omega)]
theorem Sr.row (h : Sr w0 W L S n ft rows ls) {i : Nat} (hi : i < n + n) : ∃ A cap, rows i = .slice A (ls i).length cap := (h.fam.1 i hi).form
theorem upd_self {α : Type} (f : Nat → α) (i : Nat) : upd f i (f i) = f := by
  funext k
  unfold upd
  split
  · rename_i h; rw [h]
  · rfl
/-- a row is put in order -/
theorem Sr.sorted (h : Sr w0 W L S n ft rows ls) {i : Nat} (hi : i < n + n) {l : List Nat} (hg : W.grownBy W' (rows i).ownBlock) (hF : FR W' (S + 2) (rows i) l) : Sr w0 W' L S n ft rows (upd ls i l) := by
  obtain ⟨a1, a2, a3, a4, a5⟩ := h.grown hi hg hF fun g hg => Or.inl hg
  rw [upd_self] at a4
  exact ⟨h.blocks, a1, a2, a3, a4, a5⟩
theorem Sr.start (h0 : ValB W 3 L (n + 1) fun k => .int .i64 (ft k)) (hL : w0.heap.size ≤ L) (hb : Below w0.heap.size w0 W) :
    Sr w0 ((W.alloc (.cells (madeCells #[.slice none 0 0] n) 25)).alloc (.cells (madeCells #[.slice none 0 0] n) 25)) L W.heap.size n ft (fun _ => .slice none 0 0) (fun _ => []) := by
  refine ⟨⟨hL, h0.lt⟩, (h0.keep (Below.heap_alloc W _ _ h0.lt)).keep (Below.heap_alloc _ _ _ (by have := h0.lt; simp; omega)), ⟨_, (Bk.new W _ _).alloc _, size_madeCells _ _, fun j hj => made_get _ _ _ hj⟩, ⟨_, Bk.newAt (by simp), size_madeCells _ _, fun j hj => made_get _ _ _ hj⟩, ⟨fun k _ => Or.inl ⟨rfl, rfl⟩, fun k _ k' _ _ g hg => by simp [Value.ownBlock] at hg⟩, ?_⟩
  exact (hb.alloc hb.size _).alloc (Nat.le_trans hb.size (by simp)) _
end

/-- what deps.Cyclic tells -/
def CycSaid (n : Nat) (a : Nat → List Int) (w : World) (x : Ending) (w' : World) : Prop := ∃ o b, x = .returned (.bool (!b)) ∧ Run n a [] o b ∧ Below w.heap.size w w'
theorem cyclic_any (A0 : Option Addr) (n c : Nat) (m : Nat → Nat) (e : Nat → Nat → Int) (hn : n ≤ 1000) (hm : ∀ i, i < n → m i ≤ 1000) (w : World) (hrow : RowsN w A0 n m e) :
    Calls Try.prog 15 #[.slice A0 n c] w (CycSaid n (rowsOf m e) w) := by
  have C := Lib.hid (order_any A0 n c m e hn hm w hrow)
  clear hrow
  go_enter Try.func15, Try.ntmps15
  go_wp2_with fail
  refine C.out.mono ?_
  rintro x w' (⟨r, o, rfl, h1, h2, h3⟩ | ⟨o, rfl, h1, h3⟩)
  · have H := Lib.hid (show _ ∧ _ from ⟨h1, h3⟩)
    clear h1 h2 h3
    go_wp2_with fail
    go_ret
    exact ⟨o, true, rfl, H.out⟩
  · have H := Lib.hid (show _ ∧ _ from ⟨h1, h3⟩)
    clear h1 h3
    go_wp2_with fail
    go_ret
    exact ⟨o, false, rfl, H.out⟩
end Go.Proofs.Ytecimlbdcldkdaa
