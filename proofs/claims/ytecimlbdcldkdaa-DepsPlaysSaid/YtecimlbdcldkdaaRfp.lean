/- The reference's Finish: its row of jobs in memory, and who is over behind it, in plain numbers. -/
import Derived.Test.YtecimlbdcldkdaaRad
import Derived.Test.YtecimlbdcldkdaaRrd
namespace Go.Proofs.Ytecimlbdcldkdaa
open Go.RowKit Go.Sort Go.Maps Dep

/-- a row of jobs known whole -/
def RK (w : World) (g : Nat) (r : RS) : Prop := ∃ cs : Array Value, Bk w g 57 cs ∧ ∀ i, i < r.N → cs[i * 4]? = some (.int .i64 (r.id i : Int)) ∧ cs[i * 4 + 1]? = some (.slice (r.A i) (r.n i) (r.c i)) ∧ cs[i * 4 + 2]? = some (.bool (r.ov i)) ∧ cs[i * 4 + 3]? = some (.bool (r.wl i))
section
variable {w w' : World} {g : Nat} {r : RS}
theorem ER.rk {base m cap : Nat} (h : ER 57 4 jobL w base (.slice (some ⟨g, 0, none⟩) m cap) ((List.range r.N).map r.jc)) : RK w g r := by
  rcases h.2 with ⟨e, _⟩ | ⟨g', cap', cur, e, h1, h2, h3, h4, h5, h6⟩
  · cases e
  · simp only [Value.slice.injEq, Option.some.injEq, Addr.mk.injEq] at e
    obtain ⟨⟨rfl, _, _⟩, _, _⟩ := e
    refine ⟨cur, h2, fun i hi => ?_⟩
    have hx : ((List.range r.N).map r.jc)[i]? = some (r.jc i) := by rw [List.getElem?_map, List.getElem?_range hi]; rfl
    have key : ∀ (j : Nat) (u : Value), (jobL (r.jc i))[j]? = some u → cur[i * 4 + j]? = some u := fun j u hu => by
      have hj : j < 4 := (List.getElem?_eq_some_iff.1 hu).1
      have h7 := flat_get jobOk.len _ i j _ hx hj
      rw [hu, ← h6, List.getElem?_take] at h7
      split at h7
      · rw [Array.getElem?_toList] at h7; exact h7
      · cases h7
    exact ⟨key 0 _ rfl, key 1 _ rfl, key 2 _ rfl, key 3 _ rfl⟩
theorem RK.lt (h : RK w g r) : g < w.heap.size := by obtain ⟨cs, h1, _⟩ := h; exact h1.lt
theorem RK.keep (h : RK w g r) (hh : w'.heap[g]? = w.heap[g]?) : RK w' g r := by
  obtain ⟨cs, h1, h2⟩ := h
  exact ⟨cs, hh.trans h1, h2⟩
theorem RK.pass (h : RK w g r) (hb : Below w.heap.size w w') : RK w' g r := h.keep (hb.block g h.lt)
theorem RK.jobs (h : RK w g r) : JobsIn w (some ⟨g, 0, none⟩) r := fun _ => by
  obtain ⟨cs, h1, h2⟩ := h
  refine ⟨g, 0, rfl, fun i hi => ?_⟩
  obtain ⟨a, b, c, d⟩ := h2 i hi
  rw [Nat.zero_add]
  exact ⟨h1.cell a, h1.cell b, h1.cell c, h1.cell d⟩
theorem RK.at_ (h : RK w g r) {i : Nat} (hi : i < r.N) : JobAt w g (i * 4) r i := by
  obtain ⟨cs, h1, h2⟩ := h
  obtain ⟨a, b, c, d⟩ := h2 i hi
  exact ⟨h1.cell a, h1.cell b, h1.cell c, h1.cell d⟩
theorem RK.free (h : RK w g r) (i : Nat) : w.frozen? ⟨g, i, none⟩ = false := by
  obtain ⟨cs, h1, _⟩ := h
  exact h1.free i
theorem RK.setOv (h : RK w g r) {i : Nat} (hi : i < r.N) (b : Bool) : RK (w.setCell ⟨g, i * 4 + 2, none⟩ (.bool b)) g { r with ov := upd r.ov i b } := by
  obtain ⟨cs, h1, h2⟩ := h
  refine ⟨_, h1.set (i * 4 + 2) (.bool b), fun k hk => ?_⟩
  obtain ⟨a1, a2, a3, a4⟩ := h2 k hk
  have hs : i * 4 + 2 < cs.size := (Array.getElem?_eq_some_iff.1 (h2 i hi).2.2.1).1
  refine ⟨?_, ?_, ?_, ?_⟩
  · rw [Array.getElem?_setIfInBounds, if_neg (by omega)]; exact a1
  · rw [Array.getElem?_setIfInBounds, if_neg (by omega)]; exact a2
  · rw [Array.getElem?_setIfInBounds]
    by_cases c : k = i
    · subst c
      rw [if_pos rfl, if_pos hs]
      show _ = some (Value.bool (upd r.ov k b k))
      rw [upd_same]
    · rw [if_neg (by omega)]
      show _ = some (Value.bool (upd r.ov i b k))
      rw [upd_other _ _ c]; exact a3
  · rw [Array.getElem?_setIfInBounds, if_neg (by omega)]; exact a4
theorem RK.setWl (h : RK w g r) {i : Nat} (hi : i < r.N) (b : Bool) : RK (w.setCell ⟨g, i * 4 + 3, none⟩ (.bool b)) g { r with wl := upd r.wl i b } := by
  obtain ⟨cs, h1, h2⟩ := h
  refine ⟨_, h1.set (i * 4 + 3) (.bool b), fun k hk => ?_⟩
  obtain ⟨a1, a2, a3, a4⟩ := h2 k hk
  have hs : i * 4 + 3 < cs.size := (Array.getElem?_eq_some_iff.1 (h2 i hi).2.2.2).1
  refine ⟨?_, ?_, ?_, ?_⟩
  · rw [Array.getElem?_setIfInBounds, if_neg (by omega)]; exact a1
  · rw [Array.getElem?_setIfInBounds, if_neg (by omega)]; exact a2
  · rw [Array.getElem?_setIfInBounds, if_neg (by omega)]; exact a3
  · rw [Array.getElem?_setIfInBounds]
    by_cases c : k = i
    · subst c
      rw [if_pos rfl, if_pos hs]
      show _ = some (Value.bool (upd r.wl k b k))
      rw [upd_same]
    · rw [if_neg (by omega)]
      show _ = some (Value.bool (upd r.wl i b k))
      rw [upd_other _ _ c]; exact a4
end
/-- the graph behind a finish: O are over -/
def RS.fin (r : RS) (i : Nat) (well : Bool) (O : Nat → Bool) : RS := { r with ov := O, wl := upd r.wl i well }
theorem BadR.mono {r : RS} {i : Nat} {well : Bool} {O S : Nat → Bool} (h : ∀ k, k < r.N → O k = true → S k = true) {nj : Nat} {ej : Nat → Int} (hb : BadR (r.fin i well O) nj ej) : BadR (r.fin i well S) nj ej := by
  obtain ⟨j, hj, k, hk, h1, h2, h3⟩ := hb
  exact ⟨j, hj, k, hk, h1, h k hk h2, h3⟩
/-- no more than must be are over -/
structure SoundO (r : RS) (i : Nat) (well : Bool) (O : Nat → Bool) : Prop where
  up : ∀ k, upd r.ov i true k = true → O k = true
  least : ∀ S : Nat → Bool, (∀ k, upd r.ov i true k = true → S k = true) → (∀ k, k < r.N → BadR (r.fin i well S) (r.n k) (r.e k) → S k = true) → ∀ k, k < r.N → O k = true → S k = true
theorem SoundO.start (r : RS) (i : Nat) (well : Bool) : SoundO r i well (upd r.ov i true) := ⟨fun _ h => h, fun _ h1 _ k _ h => h1 k h⟩
theorem SoundO.turn {r : RS} {i : Nat} {well : Bool} {O : Nat → Bool} (h : SoundO r i well O) {k : Nat} (hk : k < r.N) (hb : BadR (r.fin i well O) (r.n k) (r.e k)) : SoundO r i well (upd O k true) :=
  ⟨fun q hq => by
    by_cases c : q = k
    · rw [c, upd_same]
    · rw [upd_other _ _ c]; exact h.up q hq, fun S h1 h2 q hq ho => by
    by_cases c : q = k
    · rw [c]
      exact h2 k hk (hb.mono fun p hp => h.least S h1 h2 p hp)
    · rw [upd_other _ _ c] at ho
      exact h.least S h1 h2 q hq ho⟩
/-- the row of the doomed -/
structure DoomL (r : RS) (i : Nat) (O : Nat → Bool) (l : List Nat) : Prop where
  rise : l.Pairwise (· < ·)
  mem : ∀ y, y ∈ l ↔ ∃ k, k < r.N ∧ r.id k = y ∧ upd r.ov i true k = false ∧ O k = true
theorem DoomL.start (r : RS) (i : Nat) : DoomL r i (upd r.ov i true) [] := ⟨List.Pairwise.nil, fun y => ⟨fun h => (by cases h), fun ⟨k, _, _, h1, h2⟩ => by rw [h1] at h2; cases h2⟩⟩
theorem DoomL.len {r : RS} {i : Nat} {O : Nat → Bool} {l : List Nat} (h : DoomL r i O l) : l.length ≤ r.N := by
  have := nodup_sub_len (l2 := (List.range r.N).map r.id) (h.rise.imp fun h => by omega) fun x hx => by
    obtain ⟨k, hk, e, _⟩ := (h.mem x).1 hx
    exact List.mem_map.2 ⟨k, List.mem_range.2 hk, e⟩
  simpa using this
theorem DoomL.turn {r : RS} {i : Nat} {well : Bool} {O : Nat → Bool} {l l' : List Nat} (h : DoomL r i O l) (hs : SoundO r i well O) {k : Nat} (hk : k < r.N) (ho : O k = false) (hp : l'.Pairwise (· < ·)) (hm : ∀ y, y ∈ l' ↔ y = r.id k ∨ y ∈ l) : DoomL r i (upd O k true) l' := by
  refine ⟨hp, fun y => ?_⟩
  rw [hm, h.mem]
  constructor
  · rintro (c | ⟨q, h1, h2, h3, h4⟩)
    · refine ⟨k, hk, c.symm, ?_, upd_same _ _ _⟩
      cases hu : upd r.ov i true k with
      | false => rfl
      | true => rw [hs.up k hu] at ho; cases ho
    · refine ⟨q, h1, h2, h3, ?_⟩
      by_cases c : q = k
      · rw [c, upd_same]
      · rw [upd_other _ _ c]; exact h4
  · rintro ⟨q, h1, h2, h3, h4⟩
    by_cases c : q = k
    · left; rw [← h2, c]
    · rw [upd_other _ _ c] at h4
      exact Or.inr ⟨q, h1, h2, h3, h4⟩
/-- what Finish holds while it dooms -/
structure FinM (w wr : World) (r : RS) (i : Nat) (well : Bool) (g X n k5 b3 : Nat) (vw : Value) (lw : List Nat) (O : Nat → Bool) (v : Value) (l : List Nat) : Prop where
  rk : RK wr g (r.fin i well O)
  x : Bk wr X 50 #[.slice (some ⟨g, 0, none⟩) n k5]
  res : Bk wr (w.heap.size + 1) 50 #[.slice none 0 0]
  row : FR wr b3 v l
  was : FR wr w.heap.size vw lw
  wasg : ∀ q, vw.ownBlock = some q → q ≠ g
  lo : w.heap.size + 1 < g ∧ g < X ∧ X < b3 ∧ b3 ≤ wr.heap.size
  bel : Below w.heap.size w wr
section
variable {w wr w' : World} {r : RS} {i : Nat} {well : Bool} {g X n k5 b3 : Nat} {vw : Value} {lw : List Nat} {O : Nat → Bool} {v : Value} {l : List Nat}
theorem FinM.pass (h : FinM w wr r i well g X n k5 b3 vw lw O v l) (hb : Below wr.heap.size wr w') : FinM w w' r i well g X n k5 b3 vw lw O v l :=
  ⟨h.rk.pass hb, h.x.pass hb, h.res.pass hb, h.row.pass hb, h.was.pass hb, h.wasg, ⟨h.lo.1, h.lo.2.1, h.lo.2.2.1, Nat.le_trans h.lo.2.2.2 hb.size⟩, below_pass h.bel h.bel.size hb⟩
theorem FinM.newRow (h : FinM w wr r i well g X n k5 b3 vw lw O v l) {v' : Value} {l' : List Nat} (hF : FR wr b3 v' l') : FinM w wr r i well g X n k5 b3 vw lw O v' l' :=
  ⟨h.rk, h.x, h.res, hF, h.was, h.wasg, h.lo, h.bel⟩
theorem FinM.turn (h : FinM w wr r i well g X n k5 b3 vw lw O v l) {k : Nat} (hk : k < r.N) : FinM w (wr.setCell ⟨g, k * 4 + 2, none⟩ (.bool true)) r i well g X n k5 b3 vw lw (upd O k true) v l := by
  have hlo := h.lo
  refine ⟨h.rk.setOv (r := r.fin i well O) hk true, h.x.far (by dsimp only; omega) _, h.res.far (by dsimp only; omega) _, h.row.keep fun q hq _ => Below.heap_setCell wr _ _ q ?_, h.was.keep fun q hq _ => Below.heap_setCell wr _ _ q ?_, h.wasg, ⟨hlo.1, hlo.2.1, hlo.2.2.1, by simpa using hlo.2.2.2⟩, h.bel.setCell (by dsimp only; omega) _⟩
  · have := (h.row.lt q hq).1
    dsimp only; omega
  · exact h.wasg q hq
theorem FinM.grown (h : FinM w wr r i well g X n k5 b3 vw lw O v l) {row : Option Nat} (hg : wr.grownBy w' row) {b4 : Nat} (hr : ∀ b, row = some b → b4 ≤ b) (hX : X < b4) (hv : ∀ q, v.ownBlock = some q → q < b4) (hw : ∀ q, vw.ownBlock = some q → q < b4) : FinM w w' r i well g X n k5 b3 vw lw O v l := by
  have hlo := h.lo
  have hk : ∀ b, b < b4 → b < wr.heap.size → w'.heap[b]? = wr.heap[b]? := fun b hb hl => hg.block b hl fun c => by have := hr b c.symm; omega
  exact ⟨h.rk.keep (hk g (by omega) h.rk.lt), (hk X hX h.x.lt).trans h.x, (hk _ (by omega) h.res.lt).trans h.res, h.row.keep fun q hq hl => hk q (hv q hq) hl, h.was.keep fun q hq hl => hk q (hw q hq) hl, h.wasg, ⟨hlo.1, hlo.2.1, hlo.2.2.1, Nat.le_trans hlo.2.2.2 hg.size⟩, h.bel.grown hg h.bel.size fun q hq => by have := hr q hq; omega⟩
end
/-- those of a row that are not in another -/
def newOf (lw l : List Nat) : List Nat := l.filter fun y => decide (y ∉ lw)
theorem newOf_next {lw l : List Nat} {p y : Nat} (h : l[p]? = some y) : newOf lw (l.take (p + 1)) = if y ∈ lw then newOf lw (l.take p) else newOf lw (l.take p) ++ [y] := by
  unfold newOf
  rw [take_next h, List.filter_append]
  by_cases c : y ∈ lw
  · rw [if_pos c]; simp [c]
  · rw [if_neg c]; simp [c]
theorem newOf_mem {lw l : List Nat} {y : Nat} : y ∈ newOf lw l ↔ y ∈ l ∧ y ∉ lw := by
  unfold newOf
  rw [List.mem_filter]
  simp
theorem newOf_rise {lw l : List Nat} (h : l.Pairwise (· < ·)) : (newOf lw l).Pairwise (· < ·) := h.filter _
theorem newOf_len (lw l : List Nat) : (newOf lw l).length ≤ l.length := List.length_filter_le _ _
end Go.Proofs.Ytecimlbdcldkdaa
