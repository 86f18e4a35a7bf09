/- A family of rows of places in blocks of their own, what deps.Order keeps in memory; what its steps do to it. -/
import Derived.Test.YtecimlbdcldkdaaInsE
import Derived.Laws.MakeOwn
namespace Go.Proofs.Ytecimlbdcldkdaa
open Go.RowKit

def upd {α : Type} (f : Nat → α) (i : Nat) (x : α) : Nat → α := fun k => if k = i then x else f k
theorem upd_same {α : Type} (f : Nat → α) (i : Nat) (x : α) : upd f i x i = x := by unfold upd; rw [if_pos rfl]
theorem upd_other {α : Type} (f : Nat → α) {i k : Nat} (x : α) (h : k ≠ i) : upd f i x k = f k := by unfold upd; rw [if_neg h]

/-- n cells of the block g -/
def ValB (w : World) (t : TypeId) (g n : Nat) (f : Nat → Value) : Prop := ∃ cs, Bk w g t cs ∧ cs.size = n ∧ ∀ j, j < n → cs[j]? = some (f j)
section
variable {w w' : World} {t : TypeId} {g n : Nat} {f : Nat → Value}
theorem ValB.lt (h : ValB w t g n f) : g < w.heap.size := by
  obtain ⟨cs, h1, _⟩ := h
  exact h1.lt
theorem ValB.keep (h : ValB w t g n f) (hb : w'.heap[g]? = w.heap[g]?) : ValB w' t g n f := by
  obtain ⟨cs, h1, h2⟩ := h
  exact ⟨cs, hb.trans h1, h2⟩
theorem ValB.cell (h : ValB w t g n f) {j : Nat} (hj : j < n) : w.cell? ⟨g, j, none⟩ = some (f j) := by
  obtain ⟨cs, h1, _, h3⟩ := h
  exact h1.cell (h3 j hj)
theorem ValB.free (h : ValB w t g n f) (j : Nat) : w.frozen? ⟨g, j, none⟩ = false := by
  obtain ⟨cs, h1, _⟩ := h
  exact h1.free j
theorem ValB.set (h : ValB w t g n f) {i : Nat} (_hi : i < n) (x : Value) : ValB (w.setCell ⟨g, i, none⟩ x) t g n (upd f i x) := by
  obtain ⟨cs, h1, h2, h3⟩ := h
  refine ⟨_, h1.set i x, by simp [h2], fun j hj => ?_⟩
  rw [Array.getElem?_setIfInBounds]
  unfold upd
  by_cases e : i = j
  · rw [if_pos e, if_pos (by omega), if_pos e.symm]
  · rw [if_neg e, if_neg (by omega)]
    exact h3 j hj
theorem ValB.congr (h : ValB w t g n f) {f' : Nat → Value} (hf : ∀ j, j < n → f j = f' j) : ValB w t g n f' := by
  obtain ⟨cs, h1, h2, h3⟩ := h
  exact ⟨cs, h1, h2, fun j hj => by rw [← hf j hj]; exact h3 j hj⟩
end

/-- N rows, each in a block of its own, none below base -/
def Fam (w : World) (base N : Nat) (rows : Nat → Value) (ls : Nat → List Nat) : Prop :=
  (∀ k, k < N → FR w base (rows k) (ls k)) ∧ ∀ k, k < N → ∀ k', k' < N → k ≠ k' → ∀ g, (rows k).ownBlock = some g → (rows k').ownBlock ≠ some g
theorem grown_none {w w' : World} (h : w.grownBy w' none) (row : Option Nat) : w.grownBy w' row := ⟨h.os, h.tape, h.output, h.size, fun b hb _ => h.block b hb (by simp)⟩
theorem Fam.keep {w w' : World} {base N : Nat} {rows : Nat → Value} {ls : Nat → List Nat} (h : Fam w base N rows ls) (hb : ∀ g, base ≤ g → g < w.heap.size → w'.heap[g]? = w.heap[g]?) : Fam w' base N rows ls :=
  ⟨fun k hk => (h.1 k hk).keep fun g hg hl => hb g ((h.1 k hk).lt g hg).1 hl, h.2⟩
theorem Fam.step {w w' : World} {base N : Nat} {rows : Nat → Value} {ls : Nat → List Nat} (h : Fam w base N rows ls) {i : Nat} (hi : i < N) {r : Value} {l : List Nat} (hg : w.grownBy w' (rows i).ownBlock) (hF : FR w' base r l) (hr : Fresh w (rows i) r) :
    Fam w' base N (upd rows i r) (upd ls i l) := by
  refine ⟨fun k hk => ?_, fun k hk k' hk' hne g hg1 => ?_⟩
  · by_cases e : k = i
    · subst e
      rw [upd_same, upd_same]
      exact hF
    · rw [upd_other _ _ e, upd_other _ _ e]
      exact (h.1 k hk).keep fun g hg1 hl => hg.block g hl (fun c => h.2 k hk i hi e g hg1 c.symm)
  · have key : ∀ j, j < N → j ≠ i → ∀ g, r.ownBlock = some g → (rows j).ownBlock ≠ some g := fun j hj e g hg2 c => by
      rcases hr g hg2 with c2 | c2
      · exact h.2 j hj i hi e g c c2
      · have := ((h.1 j hj).lt g c).2
        omega
    by_cases e : k = i
    · subst e
      rw [upd_same] at hg1
      rw [upd_other _ _ (Ne.symm hne)]
      exact key k' hk' (Ne.symm hne) g hg1
    · rw [upd_other _ _ e] at hg1
      by_cases e' : k' = i
      · subst e'
        rw [upd_same]
        intro c
        exact key k hk e g c hg1
      · rw [upd_other _ _ e']
        exact h.2 k hk k' hk' hne g hg1
theorem Fam.congr {w : World} {base N : Nat} {rows rows' : Nat → Value} {ls ls' : Nat → List Nat} (h : Fam w base N rows ls) (hr : ∀ k, k < N → rows k = rows' k) (hl : ∀ k, k < N → ls k = ls' k) : Fam w base N rows' ls' :=
  ⟨fun k hk => by rw [← hr k hk, ← hl k hk]; exact h.1 k hk, fun k hk k' hk' => by rw [← hr k hk, ← hr k' hk']; exact h.2 k hk k' hk'⟩
theorem FR.form {w : World} {base : Nat} {v : Value} {l : List Nat} (h : FR w base v l) : ∃ A cap, v = .slice A l.length cap := by
  rcases h with ⟨rfl, rfl⟩ | ⟨g, o, cap, cs, rfl, _⟩
  · exact ⟨none, 0, rfl⟩
  · exact ⟨_, _, rfl⟩

/-- what deps.Order keeps: for how many each waits (block L), who waits for each (block L + 1), the rows (the last two: free, out) -/
structure St (w0 W : World) (n : Nat) (lf : Nat → Int) (rows : Nat → Value) (ls : Nat → List Nat) : Prop where
  left : ValB W 3 w0.heap.size n fun k => .int .i64 (lf k)
  back : ValB W 25 (w0.heap.size + 1) n rows
  fam : Fam W (w0.heap.size + 2) (n + 2) rows ls
  bel : Below w0.heap.size w0 W
section
variable {w0 W W' : World} {n : Nat} {lf : Nat → Int} {rows : Nat → Value} {ls : Nat → List Nat}
theorem St.congr (h : St w0 W n lf rows ls) {lf' : Nat → Int} {rows' : Nat → Value} {ls' : Nat → List Nat} (h1 : ∀ k, k < n → lf k = lf' k) (h2 : ∀ k, k < n + 2 → rows k = rows' k) (h3 : ∀ k, k < n + 2 → ls k = ls' k) : St w0 W n lf' rows' ls' :=
  ⟨h.left.congr fun j hj => by rw [h1 j hj], h.back.congr fun j hj => h2 j (by omega), h.fam.congr h2 h3, h.bel⟩
theorem St.heap (h : St w0 W n lf rows ls) (hh : W'.heap = W.heap) (hb : Below w0.heap.size w0 W') : St w0 W' n lf rows ls :=
  ⟨h.left.keep (by rw [hh]), h.back.keep (by rw [hh]), h.fam.keep fun g _ _ => by rw [hh], hb⟩
theorem St.drewN (h : St w0 W n lf rows ls) (q : Nat) : St w0 (W.drewN q) n lf rows ls := h.heap rfl (below_drewN h.bel q)
theorem St.drew (h : St w0 W n lf rows ls) : St w0 W.drew n lf rows ls := h.heap rfl h.bel.drew
theorem St.alloc (h : St w0 W n lf rows ls) (o : Obj) : St w0 (W.alloc o) n lf rows ls :=
  ⟨h.left.keep (Below.heap_alloc W o _ h.left.lt), h.back.keep (Below.heap_alloc W o _ h.back.lt), h.fam.keep fun g _ hl => Below.heap_alloc W o g hl, h.bel.alloc h.bel.size o⟩
/-- left[i] = x -/
theorem St.count (h : St w0 W n lf rows ls) {i : Nat} (hi : i < n) (x : Int) : St w0 (W.setCell ⟨w0.heap.size, i, none⟩ (.int .i64 x)) n (upd lf i x) rows ls :=
  ⟨(h.left.set hi _).congr fun j hj => by unfold upd; split <;> rfl, h.back.keep (Below.heap_setCell W _ _ _ (by simp)), h.fam.keep fun g hg _ => Below.heap_setCell W _ _ _ (by simp; omega), h.bel.setCell (Nat.le_refl _) _⟩
/-- the row i, grown, in its slot -/
theorem St.grow (h : St w0 W n lf rows ls) {i : Nat} (hi : i = n ∨ i = n + 1) {r : Value} {l : List Nat} (hg : W.grownBy W' (rows i).ownBlock) (hF : FR W' (w0.heap.size + 2) r l) (hr : Fresh W (rows i) r) : St w0 W' n lf (upd rows i r) (upd ls i l) := by
  have hin : i < n + 2 := by omega
  have ho : ∀ g, (rows i).ownBlock = some g → w0.heap.size + 2 ≤ g := fun g hg => ((h.fam.1 i hin).lt g hg).1
  refine ⟨h.left.keep (hg.block _ h.left.lt fun c => ?_), (h.back.keep (hg.block _ h.back.lt fun c => ?_)).congr fun j hj => (upd_other _ _ (by omega)).symm, h.fam.step hin hg hF hr, h.bel.grown hg h.bel.size fun k hk => ?_⟩
  · have := ho _ c.symm; omega
  · have := ho _ c.symm; omega
  · have := ho k hk; omega
/-- the row i, grown, and stored -/
theorem St.store (h : St w0 W n lf rows ls) {i : Nat} (hi : i < n) {r : Value} {l : List Nat} (hg : W.grownBy W' (rows i).ownBlock) (hF : FR W' (w0.heap.size + 2) r l) (hr : Fresh W (rows i) r) :
    W'.cell? ⟨w0.heap.size + 1, i, none⟩ = some (rows i) ∧ W'.frozen? ⟨w0.heap.size + 1, i, none⟩ = false ∧ St w0 (W'.setCell ⟨w0.heap.size + 1, i, none⟩ r) n lf (upd rows i r) (upd ls i l) := by
  have hin : i < n + 2 := by omega
  have ho : ∀ g, (rows i).ownBlock = some g → w0.heap.size + 2 ≤ g := fun g hg => ((h.fam.1 i hin).lt g hg).1
  have hb : ValB W' 25 (w0.heap.size + 1) n rows := h.back.keep (hg.block _ h.back.lt fun c => by have := ho _ c.symm; omega)
  have hbel : Below w0.heap.size w0 W' := h.bel.grown hg h.bel.size fun k hk => by have := ho k hk; omega
  refine ⟨hb.cell hi, hb.free i, ⟨(h.left.keep (hg.block _ h.left.lt fun c => ?_)).keep (Below.heap_setCell W' _ _ _ (by simp)), hb.set hi r, (h.fam.step hin hg hF hr).keep fun g hg _ => Below.heap_setCell W' _ _ _ (by simp; omega), hbel.setCell (by simp) _⟩⟩
  have := ho _ c.symm; omega
theorem Fresh.older {w w' : World} {v r : Value} (h : Fresh w' v r) (hs : w.heap.size ≤ w'.heap.size) : Fresh w v r := fun g hg => (h g hg).imp id fun c => Nat.le_trans hs c

/-- append(row i, k), the number in a new block: what the walk takes -/
theorem wpList_stpush (h : St w0 W n lf rows ls) {i : Nat} (hi : i < n + 2) {A : Option Addr} {m cap : Nat} (hrow : rows i = .slice A m cap) {k : Nat} (hl : m ≤ 1000000)
    {ops : Array Oper} {rest : List Oper} {o : Oper} {a : Act} {Q : Exit → Act → World → Prop} (hgd : o.guard = none) (s x : Operand)
    (ho : o.op = .call { callee := .builtin .append, args := #[s, x], argTypes := #[25, 25] }) (hty : o.type = 25)
    (hs : a.eval s = .slice A m cap) (hx : a.eval x = .slice (some ⟨W.heap.size, 0, none⟩) 1 1)
    (hk : ∀ A' cap' W', W.grownBy W' (rows i).ownBlock → FR W' (w0.heap.size + 2) (.slice A' (m + 1) cap') (ls i ++ [k]) → Fresh W (rows i) (.slice A' (m + 1) cap') →
      wpList Try.prog ops Q rest (a.put o.dst (.slice A' (m + 1) cap')) W') :
    wpList Try.prog ops Q (o :: rest) a (W.alloc (.cells #[.int .i64 (k : Int)] 3)) := by
  have hF0 := h.fam.1 i hi
  have hm : m = (ls i).length := by
    obtain ⟨A', cap', e⟩ := hF0.form
    rw [hrow] at e
    simp only [Value.slice.injEq] at e
    exact e.2.1
  have hF1 : FR (W.alloc (.cells #[.int .i64 (k : Int)] 3)) (w0.heap.size + 2) (rows i) (ls i) := hF0.keep fun g _ hl => Below.heap_alloc W _ g hl
  have hsz : w0.heap.size + 2 ≤ W.heap.size := by have := h.back.lt; omega
  obtain ⟨r, W', hr, h1, h2, h3⟩ := hF1.append_run (by omega) W.heap.size k ((Bk.new W 3 #[.int .i64 (k : Int)]).cell (i := 0) rfl) (Nat.le_trans hsz (by simp))
  obtain ⟨A', cap', e⟩ := h1.form
  rw [List.length_append, List.length_singleton, ← hm] at e
  subst e
  rw [hrow] at hr
  have hr' : (Builtin.append_ #[25, 25] o.type #[a.eval s, a.eval x]).run Try.prog (W.alloc (.cells #[.int .i64 (k : Int)] 3)) = .ok (.slice A' (m + 1) cap') W' := by rw [hty, hs, hx]; exact hr
  refine wpList_append_run hgd s x _ _ ho _ hr' (hk A' cap' W' ?_ h1 (h3.older (by simp)))
  have g0 : W.grownBy (W.alloc (.cells #[.int .i64 (k : Int)] 3)) (rows i).ownBlock := ⟨rfl, rfl, rfl, by simp, fun b hb _ => Below.heap_alloc W _ b hb⟩
  exact grown_trans g0 h2
end

theorem make_ints (n : Nat) (hn : n ≤ 1000000) (W : World) : (Instr.makeSlice 25 (.int .i64 (n : Int)) (.int .i64 (n : Int))).run Try.prog W = .ok (.slice (some ⟨W.heap.size, 0, none⟩) n n) (W.alloc (.cells (madeCells #[.int .i64 0] n) 3)) := by
  obtain ⟨i, hi, hz, hs, hb⟩ := info_parts infoInt
  have h := run_make (P := Try.prog) W 25 3 i _ Try.underlying25 hi hz .i64 .i64 n n (by omega) (Int.le_refl _) (by rw [hb]; omega) (by omega)
  rw [hs, Nat.mul_one] at h
  exact h
theorem infoInts : (Try.prog.info? 25).map (fun i => (i.zero, i.size, i.bytes)) = some (some (.slice none 0 0), 1, 24) := by kernel_rfl
theorem make_intss (n : Nat) (hn : n ≤ 1000000) (W : World) : (Instr.makeSlice 22 (.int .i64 (n : Int)) (.int .i64 (n : Int))).run Try.prog W = .ok (.slice (some ⟨W.heap.size, 0, none⟩) n n) (W.alloc (.cells (madeCells #[.slice none 0 0] n) 25)) := by
  obtain ⟨i, hi, hz, hs, hb⟩ := info_parts infoInts
  have h := run_make (P := Try.prog) W 22 25 i _ Try.underlying22 hi hz .i64 .i64 n n (by omega) (Int.le_refl _) (by rw [hb]; omega) (by omega)
  rw [hs, Nat.mul_one] at h
  exact h
theorem made_get (v : Value) (n j : Nat) (h : j < n) : (madeCells #[v] n)[j]? = some v := by
  unfold madeCells
  simp [h, Nat.mod_one]
theorem St.start {w : World} {n : Nat} : St w ((w.alloc (.cells (madeCells #[.int .i64 0] n) 3)).alloc (.cells (madeCells #[.slice none 0 0] n) 25)) n (fun _ => 0) (fun _ => .slice none 0 0) (fun _ => []) := by
  refine ⟨⟨_, (Bk.new w _ _).alloc _, size_madeCells _ _, fun j hj => made_get _ _ _ hj⟩, ⟨_, Bk.newAt (by simp), size_madeCells _ _, fun j hj => made_get _ _ _ hj⟩, ⟨fun k _ => Or.inl ⟨rfl, rfl⟩, fun k _ k' _ _ g hg => by simp [Value.ownBlock] at hg⟩, ?_⟩
  exact ((Below.refl w.heap.size w).alloc (Nat.le_refl _) _).alloc (by simp) _

theorem search_any {w : World} {base : Nat} {v : Value} {l : List Nat} (h : FR w base v l) (hl : l.length ≤ 1000000) (k : Nat) (hs : l.Pairwise (· < ·)) :
    Calls Try.prog 29 #[v, .int .i64 (k : Int)] w fun e w' => ∃ b q, e = .returned (.tuple #[.int .i64 ((l.countP (· < k) : Nat) : Int), .bool b]) ∧ w' = w.drewN q := by
  rcases h with ⟨rfl, rfl⟩ | ⟨g, o, cap, cs, rfl, h1, h2, h3, h4, h5, h6⟩
  · refine (Any.slices_BinarySearch_int_empty Try.lays25 none 0 (k : Int) w).mono ?_
    rintro e w' h
    obtain ⟨rfl, h2⟩ := h
    exact ⟨_, 0, rfl, h2⟩
  · have hz : (l.map (fun x : Nat => (x : Int))).length = l.length := by simp
    have ht : (l.map (fun x : Nat => (x : Int))).take l.length = l.map (fun x : Nat => (x : Int)) := by rw [← hz, List.take_length]
    refine (Any.slices_BinarySearch_int Try.lays25 g o l.length cap (l.map (fun x : Nat => (x : Int))) (k : Int) w (by simp) (by omega) (fun j hj => ?_) ?_).mono ?_
    · rw [hz] at hj
      refine h2.cell ?_
      have := h6 j l[j] (List.getElem?_eq_getElem hj)
      rw [this]
      simp [List.getD_eq_getElem?_getD, hj]
    · rw [ht, List.pairwise_map]
      exact hs.imp fun h => by omega
    · rintro e w' ⟨rfl, q, rfl⟩
      refine ⟨_, q, congrArg (fun x : Nat => Ending.returned (.tuple #[.int .i64 (x : Int), .bool (((l.map (fun x : Nat => (x : Int))).take l.length).contains (k : Int))])) ?_, rfl⟩
      rw [ht, List.countP_map]
      refine congrArg (fun p => List.countP p l) ?_
      funext x
      simp
end Go.Proofs.Ytecimlbdcldkdaa
