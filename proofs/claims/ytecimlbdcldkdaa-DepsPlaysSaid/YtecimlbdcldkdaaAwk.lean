/- The document's examples: awake. -/
import Derived.Test.YtecimlbdcldkdaaRes
namespace Go.Proofs.Ytecimlbdcldkdaa
open Go.RowKit Dep

theorem uniq_rise : ∀ {l l' : List Nat}, l.Pairwise (· < ·) → l'.Pairwise (· < ·) → (∀ x, x ∈ l ↔ x ∈ l') → l = l'
  | [], [], _, _, _ => rfl
  | [], y :: l', _, _, h => by have := (h y).2 (by simp); cases this
  | x :: l, [], _, _, h => by have := (h x).1 (by simp); cases this
  | x :: l, y :: l', h1, h2, h => by
    rw [List.pairwise_cons] at h1 h2
    have e : x = y := by
      have a := (h x).1 (by simp)
      have b := (h y).2 (by simp)
      rcases List.mem_cons.1 a with a | a
      · exact a
      · rcases List.mem_cons.1 b with b | b
        · exact b.symm
        · have := h1.1 y b
          have := h2.1 x a
          omega
    subst e
    congr 1
    refine uniq_rise h1.2 h2.2 fun z => ?_
    have hz := h z
    rw [List.mem_cons, List.mem_cons] at hz
    constructor
    · intro m
      rcases hz.1 (Or.inr m) with c | c
      · have := h1.1 z m; omega
      · exact c
    · intro m
      rcases hz.2 (Or.inr m) with c | c
      · have := h2.1 z m; omega
      · exact c

theorem FR.pass {w w' : World} {base : Nat} {v : Value} {l : List Nat} (h : FR w base v l) (hb : Below w.heap.size w w') : FR w' base v l := h.keep fun g _ hl => hb.block g hl
theorem NumsAt.of {w : World} {g n : Nat} {cs : Array Value} {d : Nat → Int} (h : Bk w g 3 cs) (hc : ∀ j, j < n → cs[j]? = some (.int .i64 (d j))) : NumsAt w (some ⟨g, 0, none⟩) n d := fun _ => ⟨g, 0, rfl, fun j hj => by rw [Nat.zero_add]; exact h.cell (hc j hj)⟩

def mO : Nat → Nat := fun i => [1, 0, 1].getD i 0
def eO : Nat → Nat → Int := fun i _ => [1, 0, 0].getD i 0
theorem runO : Run 3 (rowsOf mO eO) [] [1, 0, 2] true :=
  Run.more [] 1 _ _ (by decide) (by unfold Best; decide) (Run.more [1] 0 _ _ (by decide) (by unfold Best; decide) (Run.more [1, 0] 2 _ _ (by decide) (by unfold Best; decide) (Run.full _ rfl)))
def mC : Nat → Nat := fun _ => 1
def eC : Nat → Nat → Int := fun i _ => [1, 0].getD i 0
theorem runC : Run 2 (rowsOf mC eC) [] [] false := Run.stuck [] (by decide) (by unfold Best; decide)
def mR : Nat → Nat := fun i => [0, 1].getD i 0
def eR : Nat → Nat → Int := fun _ _ => -1
def szR : Nat → Int := fun i => [2, 3].getD i 0
theorem runR : Run 2 (specsL mR eR) [] [0, 1] true :=
  Run.more [] 0 _ _ (by decide) (by unfold Best; decide) (Run.more [0] 1 _ _ (by decide) (by unfold Best; decide) (Run.full _ rfl))
theorem jobsR : jobsP 10 szR eR 1 (mR 1) = [10, 11] := by decide
theorem argR : ¬ argBad 10 2 szR 2 := by
  rintro (h | h | h | h | ⟨k, hk, h⟩)
  · omega
  · omega
  · omega
  · omega
  · match k, hk with
    | 0, _ => revert h; decide
    | 1, _ => revert h; decide
theorem cleanR : clean 10 2 mR eR := fun i hi j hj => by
  rintro (h | h | h)
  · cases h
  · revert h; unfold eR; decide
  · revert h; unfold eR; decide
def mF : Nat → Nat := fun _ => 1
def szF : Nat → Int := fun _ => 1
theorem runF : Run 1 (specsL mF eR) [] [] false := Run.stuck [] (by decide) (by unfold Best; decide)
theorem argF : ¬ argBad 10 1 szF 1 := by
  rintro (h | h | h | h | ⟨k, hk, h⟩)
  · omega
  · omega
  · omega
  · omega
  · unfold szF at h; omega
theorem cleanF : clean 10 1 mF eR := fun i hi j hj => by
  rintro (h | h | h)
  · cases h
  · revert h; unfold eR; decide
  · revert h; unfold eR; decide

theorem below3 (w : World) (a b c : Obj) : Below w.heap.size w (((w.alloc a).alloc b).alloc c) := (((Below.refl w.heap.size w).alloc (Nat.le_refl _) _).alloc (by simp) _).alloc (by simp; omega) _
theorem below_up {w W w' : World} (h : Below w.heap.size w W) (h2 : Below W.heap.size W w') : Below w.heap.size w w' := below_pass h h.size h2
theorem blk1 (w : World) (t : TypeId) (cs : Array Value) (b c : Obj) : Bk (((w.alloc (.cells cs t)).alloc b).alloc c) w.heap.size t cs := ((Bk.new w t cs).alloc _).alloc _
theorem blk2 (w : World) (t : TypeId) (cs : Array Value) (a c : Obj) : Bk (((w.alloc a).alloc (.cells cs t)).alloc c) (w.heap.size + 1) t cs := (Bk.newAt (by simp)).alloc _
theorem blk3 (w : World) (t : TypeId) (cs : Array Value) (a b : Obj) : Bk (((w.alloc a).alloc b).alloc (.cells cs t)) (w.heap.size + 2) t cs := Bk.newAt (by simp)

theorem ex_order (w : World) :
    Calls Try.prog 12 #[.slice (some ⟨w.heap.size + 1 + 1, 0, none⟩) 3 3] (((w.alloc (.cells #[.int .i64 1] 3)).alloc (.cells #[.int .i64 0] 3)).alloc (.cells #[.slice (some ⟨w.heap.size, 0, none⟩) 1 1, .slice none 0 0, .slice (some ⟨w.heap.size + 1, 0, none⟩) 1 1] 25))
      fun x w' => ∃ A c, x = .returned (.tuple #[.slice A 3 c, .bool true]) ∧ FR w' w.heap.size (.slice A 3 c) [1, 0, 2] ∧ Below w.heap.size w w' := by
  have K0 := blk1 w 3 #[.int .i64 1] (.cells #[.int .i64 0] 3) (.cells #[.slice (some ⟨w.heap.size, 0, none⟩) 1 1, .slice none 0 0, .slice (some ⟨w.heap.size + 1, 0, none⟩) 1 1] 25)
  have K1 := blk2 w 3 #[.int .i64 0] (.cells #[.int .i64 1] 3) (.cells #[.slice (some ⟨w.heap.size, 0, none⟩) 1 1, .slice none 0 0, .slice (some ⟨w.heap.size + 1, 0, none⟩) 1 1] 25)
  have K2 := blk3 w 25 #[.slice (some ⟨w.heap.size, 0, none⟩) 1 1, .slice none 0 0, .slice (some ⟨w.heap.size + 1, 0, none⟩) 1 1] (.cells #[.int .i64 1] 3) (.cells #[.int .i64 0] 3)
  have B := below3 w (.cells #[.int .i64 1] 3) (.cells #[.int .i64 0] 3) (.cells #[.slice (some ⟨w.heap.size, 0, none⟩) 1 1, .slice none 0 0, .slice (some ⟨w.heap.size + 1, 0, none⟩) 1 1] 25)
  generalize (((w.alloc (.cells #[.int .i64 1] 3)).alloc (.cells #[.int .i64 0] 3)).alloc (.cells #[.slice (some ⟨w.heap.size, 0, none⟩) 1 1, .slice none 0 0, .slice (some ⟨w.heap.size + 1, 0, none⟩) 1 1] 25)) = W at *
  refine (order_any (some ⟨w.heap.size + 1 + 1, 0, none⟩) 3 3 mO eO (by decide) (fun i hi => ?_) W (fun _ => ⟨_, 0, rfl, fun i hi => ?_⟩)).mono ?_
  · match i, hi with
    | 0, _ => decide
    | 1, _ => decide
    | 2, _ => decide
  · match i, hi with
    | 0, _ => exact ⟨_, 1, K2.cell (i := 0) rfl, .of K0 fun j hj => by obtain rfl : j = 0 := by (unfold mO at hj; simp at hj; omega)
                                                                       rfl⟩
    | 1, _ => exact ⟨none, 0, K2.cell (i := 1) rfl, fun h => absurd h (by decide)⟩
    | 2, _ => exact ⟨_, 1, K2.cell (i := 2) rfl, .of K1 fun j hj => by obtain rfl : j = 0 := by (unfold mO at hj; simp at hj; omega)
                                                                       rfl⟩
  · rintro x w' (⟨r, o, rfl, h1, h2, h3⟩ | ⟨o, rfl, h1, h3⟩)
    · obtain ⟨rfl, _⟩ := h1.unique runO
      obtain ⟨A, c, e⟩ := h2.form
      exact ⟨A, c, by rw [e]; rfl, by have := h2.mono B.size; rw [e] at this; exact this, below_up B h3⟩
    · cases (h1.unique runO).2
theorem ex_cyc (w : World) :
    Calls Try.prog 15 #[.slice (some ⟨w.heap.size + 1 + 1, 0, none⟩) 2 2] (((w.alloc (.cells #[.int .i64 1] 3)).alloc (.cells #[.int .i64 0] 3)).alloc (.cells #[.slice (some ⟨w.heap.size, 0, none⟩) 1 1, .slice (some ⟨w.heap.size + 1, 0, none⟩) 1 1] 25))
      fun x w' => x = .returned (.bool true) ∧ Below w.heap.size w w' := by
  have K0 := blk1 w 3 #[.int .i64 1] (.cells #[.int .i64 0] 3) (.cells #[.slice (some ⟨w.heap.size, 0, none⟩) 1 1, .slice (some ⟨w.heap.size + 1, 0, none⟩) 1 1] 25)
  have K1 := blk2 w 3 #[.int .i64 0] (.cells #[.int .i64 1] 3) (.cells #[.slice (some ⟨w.heap.size, 0, none⟩) 1 1, .slice (some ⟨w.heap.size + 1, 0, none⟩) 1 1] 25)
  have K2 := blk3 w 25 #[.slice (some ⟨w.heap.size, 0, none⟩) 1 1, .slice (some ⟨w.heap.size + 1, 0, none⟩) 1 1] (.cells #[.int .i64 1] 3) (.cells #[.int .i64 0] 3)
  have B := below3 w (.cells #[.int .i64 1] 3) (.cells #[.int .i64 0] 3) (.cells #[.slice (some ⟨w.heap.size, 0, none⟩) 1 1, .slice (some ⟨w.heap.size + 1, 0, none⟩) 1 1] 25)
  generalize (((w.alloc (.cells #[.int .i64 1] 3)).alloc (.cells #[.int .i64 0] 3)).alloc (.cells #[.slice (some ⟨w.heap.size, 0, none⟩) 1 1, .slice (some ⟨w.heap.size + 1, 0, none⟩) 1 1] 25)) = W at *
  refine (cyclic_any (some ⟨w.heap.size + 1 + 1, 0, none⟩) 2 2 mC eC (by decide) (fun i hi => ?_) W (fun _ => ⟨_, 0, rfl, fun i hi => ?_⟩)).mono ?_
  · unfold mC; decide
  · match i, hi with
    | 0, _ => exact ⟨_, 1, K2.cell (i := 0) rfl, .of K0 fun j hj => by obtain rfl : j = 0 := by (unfold mC at hj; omega)
                                                                       rfl⟩
    | 1, _ => exact ⟨_, 1, K2.cell (i := 1) rfl, .of K1 fun j hj => by obtain rfl : j = 0 := by (unfold mC at hj; omega)
                                                                       rfl⟩
  · rintro x w' ⟨o, b, rfl, h1, h3⟩
    obtain ⟨_, rfl⟩ := h1.unique runC
    exact ⟨rfl, below_up B h3⟩
theorem ex_res (w : World) :
    Calls Try.prog 17 #[.int .i64 10, .slice (some ⟨w.heap.size, 0, none⟩) 2 2, .slice (some ⟨w.heap.size + 1 + 1, 0, none⟩) 2 2] (((w.alloc (.cells #[.int .i64 2, .int .i64 3] 3)).alloc (.cells #[.int .i64 (-1)] 3)).alloc (.cells #[.slice none 0 0, .slice (some ⟨w.heap.size + 1, 0, none⟩) 1 1] 25))
      fun x w' => ∃ g o c A c2, x = .returned (.tuple #[.slice (some ⟨g, o, none⟩) 2 c, .int .i64 0]) ∧ w'.cell? ⟨g, o + 1, none⟩ = some (.slice A 2 c2) ∧ FR w' w.heap.size (.slice A 2 c2) [10, 11] ∧ Below w.heap.size w w' := by
  have K0 := blk1 w 3 #[.int .i64 2, .int .i64 3] (.cells #[.int .i64 (-1)] 3) (.cells #[.slice none 0 0, .slice (some ⟨w.heap.size + 1, 0, none⟩) 1 1] 25)
  have K1 := blk2 w 3 #[.int .i64 (-1)] (.cells #[.int .i64 2, .int .i64 3] 3) (.cells #[.slice none 0 0, .slice (some ⟨w.heap.size + 1, 0, none⟩) 1 1] 25)
  have K2 := blk3 w 25 #[.slice none 0 0, .slice (some ⟨w.heap.size + 1, 0, none⟩) 1 1] (.cells #[.int .i64 2, .int .i64 3] 3) (.cells #[.int .i64 (-1)] 3)
  have B := below3 w (.cells #[.int .i64 2, .int .i64 3] 3) (.cells #[.int .i64 (-1)] 3) (.cells #[.slice none 0 0, .slice (some ⟨w.heap.size + 1, 0, none⟩) 1 1] 25)
  generalize (((w.alloc (.cells #[.int .i64 2, .int .i64 3] 3)).alloc (.cells #[.int .i64 (-1)] 3)).alloc (.cells #[.slice none 0 0, .slice (some ⟨w.heap.size + 1, 0, none⟩) 1 1] 25)) = W at *
  refine (resolve_any 10 (some ⟨w.heap.size, 0, none⟩) 2 2 szR (by decide) (some ⟨w.heap.size + 1 + 1, 0, none⟩) 2 2 mR eR (by decide) (fun i hi => ?_) W (.of K0 fun j hj => ?_) (fun _ => ⟨_, 0, rfl, fun i hi => ?_⟩)).mono ?_
  · match i, hi with
    | 0, _ => decide
    | 1, _ => decide
  · match j, hj with
    | 0, _ => rfl
    | 1, _ => rfl
  · match i, hi with
    | 0, _ => exact ⟨none, 0, K2.cell (i := 0) rfl, fun h => absurd h (by decide)⟩
    | 1, _ => exact ⟨_, 1, K2.cell (i := 1) rfl, .of K1 fun j hj => by obtain rfl : j = 0 := by (unfold mR at hj; simp at hj; omega)
                                                                       rfl⟩
  · rintro x w' ⟨h0, ⟨h1, _⟩ | ⟨_, ⟨h1, _⟩ | ⟨_, ⟨o, h1, _⟩ | ⟨o, h1, A, c, ls, rfl, h2, h3⟩⟩⟩⟩
    · exact absurd h1 argR
    · exact absurd cleanR h1
    · cases (h1.unique runR).2
    · obtain ⟨g, o2, v, rfl, hv, hF⟩ := h2 1 (by decide)
      have hl : ls 1 = [10, 11] := uniq_rise (h3 1 (by decide)).1 (by decide) fun y => by rw [(h3 1 (by decide)).2, jobsR]
      rw [hl] at hF
      obtain ⟨A2, c2, e⟩ := hF.form
      subst e
      exact ⟨g, o2, c, A2, c2, rfl, hv, hF.mono B.size, below_up B h0⟩
theorem ex_fail (w : World) :
    Calls Try.prog 17 #[.int .i64 10, .slice (some ⟨w.heap.size, 0, none⟩) 1 1, .slice (some ⟨w.heap.size + 1 + 1, 0, none⟩) 1 1] (((w.alloc (.cells #[.int .i64 1] 3)).alloc (.cells #[.int .i64 (-1)] 3)).alloc (.cells #[.slice (some ⟨w.heap.size + 1, 0, none⟩) 1 1] 25))
      fun x w' => x = .returned (.tuple #[.slice none 0 0, .int .i64 91]) ∧ Below w.heap.size w w' := by
  have K0 := blk1 w 3 #[.int .i64 1] (.cells #[.int .i64 (-1)] 3) (.cells #[.slice (some ⟨w.heap.size + 1, 0, none⟩) 1 1] 25)
  have K1 := blk2 w 3 #[.int .i64 (-1)] (.cells #[.int .i64 1] 3) (.cells #[.slice (some ⟨w.heap.size + 1, 0, none⟩) 1 1] 25)
  have K2 := blk3 w 25 #[.slice (some ⟨w.heap.size + 1, 0, none⟩) 1 1] (.cells #[.int .i64 1] 3) (.cells #[.int .i64 (-1)] 3)
  have B := below3 w (.cells #[.int .i64 1] 3) (.cells #[.int .i64 (-1)] 3) (.cells #[.slice (some ⟨w.heap.size + 1, 0, none⟩) 1 1] 25)
  generalize (((w.alloc (.cells #[.int .i64 1] 3)).alloc (.cells #[.int .i64 (-1)] 3)).alloc (.cells #[.slice (some ⟨w.heap.size + 1, 0, none⟩) 1 1] 25)) = W at *
  refine (resolve_any 10 (some ⟨w.heap.size, 0, none⟩) 1 1 szF (by decide) (some ⟨w.heap.size + 1 + 1, 0, none⟩) 1 1 mF eR (by decide) (fun i hi => ?_) W (.of K0 fun j hj => ?_) (fun _ => ⟨_, 0, rfl, fun i hi => ?_⟩)).mono ?_
  · unfold mF; decide
  · match j, hj with
    | 0, _ => rfl
  · match i, hi with
    | 0, _ => exact ⟨_, 1, K2.cell (i := 0) rfl, .of K1 fun j hj => by obtain rfl : j = 0 := by (unfold mF at hj; omega)
                                                                       rfl⟩
  · rintro x w' ⟨h0, ⟨h1, _⟩ | ⟨_, ⟨h1, _⟩ | ⟨_, ⟨o, h1, rfl⟩ | ⟨o, h1, _⟩⟩⟩⟩
    · exact absurd h1 argF
    · exact absurd cleanF h1
    · exact ⟨rfl, below_up B h0⟩
    · cases (h1.unique runF).2

/-- Same at a row of places and a block -/
theorem same_fr {w : World} {base : Nat} {A : Option Addr} {n c g : Nat} {cs : Array Value} {l : List Nat} (h : FR w base (.slice A n c) l) (hg : Bk w g 3 cs) (hn : n ≤ 1000000) (hc : ∀ j, j < n → cs[j]? = some (.int .i64 ((l.getD j 0 : Nat) : Int))) :
    Calls Try.prog 14 #[.slice A n c, .slice (some ⟨g, 0, none⟩) n n] w fun e w' => e = .returned (.bool true) ∧ Below w.heap.size w w' :=
  same_any A _ n c n _ hn w h.nums (.of hg hc)

set_option maxRecDepth 100000 in
set_option maxHeartbeats 8000000 in
theorem awake_any (w : World) : Calls Try.prog 10 #[] w fun x w' => x = .returned (.bool true) ∧ Below w.heap.size w w' := by
  go_enter Try.func10, Try.ntmps10
  go_wp2_with fail
  refine (ex_order w).mono ?_
  rintro x w1 ⟨A1, c1, rfl, F1, B1⟩
  have H1 := Lib.hid (show _ ∧ _ from ⟨F1, B1⟩)
  clear F1 B1
  go_wp2_with fail
  refine (ex_res w1).mono ?_
  rintro x w2 ⟨g, o, c, A2, c2, rfl, hc2, F2, B2⟩
  have H2 := Lib.hid (show _ ∧ _ ∧ _ from ⟨hc2, F2, B2⟩)
  clear hc2 F2 B2
  go_wp2_with fail
  refine (ex_fail w2).mono ?_
  rintro x w3 ⟨rfl, B3⟩
  have H3 := Lib.hid B3
  clear B3
  have hF3 := (H1.out.1.pass (below_pass (Below.refl _ _) (Nat.le_refl _) H2.out.2.2)).pass H3.out
  have hB3 := below_up (below_up H1.out.2 H2.out.2.2) H3.out
  have HB3 := Lib.hid hB3
  have C4 := Lib.hid (same_fr (FR.keep (w' := w3.alloc (.cells #[.int .i64 1, .int .i64 0, .int .i64 2] 3)) hF3 fun g _ hl => Below.heap_alloc w3 _ g hl) (Bk.new w3 3 #[.int .i64 1, .int .i64 0, .int .i64 2]) (by decide) (fun j hj => by
    match j, hj with
    | 0, _ => rfl
    | 1, _ => rfl
    | 2, _ => rfl))
  clear hF3 hB3
  go_wp2_with fail
  refine C4.out.mono ?_
  rintro x w4 ⟨rfl, B4⟩
  have HB4 := Lib.hid (below_up HB3.out (below_up ((Below.refl w3.heap.size w3).alloc (Nat.le_refl _) _) B4))
  have HB43 := Lib.hid (below_up ((Below.refl w3.heap.size w3).alloc (Nat.le_refl _) _) B4)
  clear B4 C4
  go_wp2_with fail
  refine (ex_cyc w4).mono ?_
  rintro x w5 ⟨rfl, B5⟩
  have hc5 : w5.cell? ⟨g, o + 1, none⟩ = some (.slice A2 2 c2) := keep_below (keep_below (keep_below H2.out.1 H3.out) HB43.out) B5
  have hF5 := ((H2.out.2.1.pass H3.out).pass HB43.out).pass B5
  have HB5 := Lib.hid (below_up HB4.out B5)
  have C6 := Lib.hid (same_fr (FR.keep (w' := w5.alloc (.cells #[.int .i64 10, .int .i64 11] 3)) hF5 fun g _ hl => Below.heap_alloc w5 _ g hl) (Bk.new w5 3 #[.int .i64 10, .int .i64 11]) (by decide) (fun j hj => by
    match j, hj with
    | 0, _ => rfl
    | 1, _ => rfl))
  clear B5 hF5
  go_wp2_with fail
  refine C6.out.mono ?_
  rintro x w6 ⟨rfl, B6⟩
  have HB6 := Lib.hid (below_up HB5.out (below_up ((Below.refl w5.heap.size w5).alloc (Nat.le_refl _) _) B6))
  clear B6 C6 hc5
  go_wp2_with fail
  go_ret
  exact ⟨rfl, HB6.out⟩
end Go.Proofs.Ytecimlbdcldkdaa
