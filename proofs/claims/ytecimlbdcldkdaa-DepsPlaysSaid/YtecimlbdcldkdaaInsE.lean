/- slices.Insert of one number into a row of places, wherever: by the shelf's four contracts. -/
import Derived.Test.YtecimlbdcldkdaaInsB
import Derived.Test.YtecimlbdcldkdaaShf
namespace Go.Proofs.Ytecimlbdcldkdaa
open Go.RowKit

theorem Bk.setCells {g : Nat} {t : TypeId} : ∀ (vs : List Value) (o : Nat) (w : World) (cs : Array Value), Bk w g t cs →
    ∃ cs', Bk (w.setCells g o vs) g t cs' ∧ cs'.size = cs.size ∧ ∀ j, cs'[j]? = if o ≤ j ∧ j < o + vs.length ∧ j < cs.size then vs[j - o]? else cs[j]?
  | [], o, w, cs, h => ⟨cs, h, rfl, fun j => by rw [if_neg (by simp; omega)]⟩
  | v :: r, o, w, cs, h => by
    obtain ⟨cs', h1, h2, h3⟩ := Bk.setCells r (o + 1) (w.setCell ⟨g, o, none⟩ v) _ (h.set o v)
    refine ⟨cs', h1, by simpa using h2, fun j => ?_⟩
    rw [h3 j]
    simp only [Array.size_setIfInBounds, List.length_cons]
    by_cases e : j = o
    · subst e
      rw [if_neg (by omega)]
      rw [Array.getElem?_setIfInBounds, if_pos rfl]
      by_cases l : j < cs.size
      · rw [if_pos l, if_pos (by omega)]; simp
      · rw [if_neg l, if_neg (by omega)]
        rw [Array.getElem?_eq_none (by omega)]
    · by_cases c : o + 1 ≤ j ∧ j < o + 1 + r.length ∧ j < cs.size
      · rw [if_pos c, if_pos (by omega)]
        rw [show j - o = (j - (o + 1)) + 1 by omega, List.getElem?_cons_succ]
      · rw [if_neg c, if_neg (by omega), Array.getElem?_setIfInBounds, if_neg (by omega)]
theorem setCells_grown (w : World) (g o : Nat) (vs : List Value) : w.grownBy (w.setCells g o vs) (some g) := by
  induction vs generalizing o w with
  | nil => exact World.grownBy.refl _ _
  | cons v r ih =>
    have h1 := ih (w.setCell ⟨g, o, none⟩ v) (o + 1)
    have h0 : w.grownBy (w.setCell ⟨g, o, none⟩ v) (some g) := ⟨rfl, rfl, rfl, by simp, fun b _ hne => Below.heap_setCell w _ _ b (fun e => hne (by rw [e]))⟩
    exact ⟨h1.os.trans h0.os, h1.tape.trans h0.tape, h1.output.trans h0.output, Nat.le_trans h0.size h1.size, fun b hb hne => (h1.block b (Nat.lt_of_lt_of_le hb h0.size) hne).trans (h0.block b hb hne)⟩
theorem add_at (b off k : Nat) : (⟨b, off, none⟩ : Addr).add k = ⟨b, off + k, none⟩ := by
  unfold Addr.add
  by_cases h : k = 0
  · subst h; simp
  · simp [h]
theorem ren3 : Try.lays21_ren.t 3 = 3 := rfl
theorem grown_trans {a b c : World} {row : Option Nat} (h : a.grownBy b row) (k : b.grownBy c row) : a.grownBy c row := ⟨k.os.trans h.os, k.tape.trans h.tape, k.output.trans h.output, Nat.le_trans h.size k.size, fun x hx hne => (k.block x (Nat.lt_of_lt_of_le hx h.size) hne).trans (h.block x hx hne)⟩
theorem drew_grown (w : World) (row : Option Nat) : w.grownBy w.drew row := ⟨rfl, rfl, rfl, Nat.le_refl _, fun _ _ _ => rfl⟩
/-- what is written into blocks that weren't there is no change -/
theorem grown_new {a b c : World} {g : Nat} {row : Option Nat} (h : a.grownBy b row) (k : b.grownBy c (some g)) (hg : a.heap.size ≤ g) : a.grownBy c row :=
  ⟨k.os.trans h.os, k.tape.trans h.tape, k.output.trans h.output, Nat.le_trans h.size k.size, fun x hx hne => (k.block x (Nat.lt_of_lt_of_le hx h.size) (by simp; omega)).trans (h.block x hx hne)⟩

theorem ins_get {l : List Nat} {a k : Nat} (ha : a ≤ l.length) (j : Nat) : (l.take a ++ k :: l.drop a)[j]? = if j < a then l[j]? else if j = a then some k else l[j - 1]? := by
  have hlt : (l.take a).length = a := by simp; omega
  by_cases h : j < a
  · rw [if_pos h, List.getElem?_append_left (by omega), List.getElem?_take, if_pos h]
  · rw [if_neg h, List.getElem?_append_right (by omega), hlt]
    by_cases e : j = a
    · subst e; simp
    · rw [if_neg e, show j - a = (j - a - 1) + 1 by omega, List.getElem?_cons_succ, List.getElem?_drop]
      congr 1
      omega
theorem ins_len {l : List Nat} {a k : Nat} (ha : a ≤ l.length) : (l.take a ++ k :: l.drop a).length = l.length + 1 := by simp; omega

set_option maxHeartbeats 1000000 in
theorem insert_any {w : World} {base : Nat} {v : Value} {l : List Nat} (h : FR w base v l) (hl : l.length ≤ 1000000) {at_ : Nat} (hat : at_ ≤ l.length) {gx k : Nat} (hx : Bk w gx 3 #[.int .i64 (k : Int)]) (hne : ∀ g, v.ownBlock = some g → g ≠ gx) (hb : base ≤ w.heap.size) :
    Calls Try.prog 30 #[v, .int .i64 (at_ : Int), .slice (some ⟨gx, 0, none⟩) 1 1] w fun e w' => ∃ r, e = .returned r ∧ FR w' base r (l.take at_ ++ k :: l.drop at_) ∧ w.grownBy w' v.ownBlock ∧ Fresh w v r := by
  have hvs : ∀ j u, (nums [k])[j]? = some u → w.cell? ⟨gx, 0 + j, none⟩ = some u := by
    intro j u hj
    match j, hj with
    | 0, hj =>
      simp [nums] at hj
      subst hj
      exact hx.cell (i := 0) rfl
  have h1v : ∀ u ∈ nums [k], u.oneCell' = true := one_cell
  rcases h with ⟨rfl, rfl⟩ | ⟨g, o, cap, cs, rfl, h1, h2, h3, h4, h5, h6⟩
  · -- none
    obtain rfl : at_ = 0 := by simpa using hat
    refine (Any2.slices_Insert_int_end_grow Try.lays21 none 0 0 gx 0 1 1 [] (nums [k]) w (by omega) (by omega) (by omega) (by omega) rfl rfl (fun _ => rfl) (fun a e => by cases e) hvs h1v).mono ?_
    rintro e w' ⟨rfl, rfl⟩
    simp only [ren3]
    have hge := grownCap_ge w (0 + 1) 0 3
    have hle := grownCap_le_maxLen w (0 + 1) 0 3 (by unfold maxLen; omega)
    unfold maxLen at hle
    have e1 : (0 : Nat) + 1 = 1 := rfl
    rw [e1] at hge hle
    rw [e1]
    have hF : FR (w.drew.alloc (.cells (([] ++ nums [k]).toArray ++ Builtin.zeroCells (Value.int .i64 0).cells (grownCap w 1 0 3 - 1)) 3)) w.heap.size (.slice (some ⟨w.heap.size, 0, none⟩) 1 (grownCap w 1 0 3)) [k] := by
      refine Or.inr ⟨w.heap.size, 0, _, _, rfl, Nat.le_refl _, heap_alloc_new w.drew _, hge, ?_, ?_, fun j x hj => ?_⟩
      · simp [Builtin.zeroCells, Value.cells, nums]; omega
      · simp [Builtin.zeroCells, Value.cells, nums]; omega
      · have := nums_get hj
        have hlt := (List.getElem?_eq_some_iff.1 this).1
        rw [show 0 + j = j by omega, Array.getElem?_append_left (by simpa using hlt), List.getElem?_toArray, List.nil_append]
        exact this
    exact ⟨_, rfl, hF.mono hb, ⟨rfl, rfl, rfl, by simp, fun b hb' _ => Below.heap_alloc w.drew _ b hb'⟩, hF.fresh⟩
  · have hgx : gx ≠ g := fun e => hne g rfl e.symm
    have hcs : ∀ j u, (nums l)[j]? = some u → w.cell? ⟨g, o + j, none⟩ = some u := fun j u hj => by
      obtain ⟨x, hx1, rfl⟩ := nums_at hj
      exact h2.cell (h6 j x hx1)
    have hsome : ∀ j, o + j < cs.size → (w.cell? ⟨g, o + j, none⟩).isSome = true := fun j hj => by
      rw [h2.cell (Array.getElem?_eq_getElem hj)]; rfl
    by_cases hroom : l.length + 1 ≤ cap
    · by_cases he : at_ = l.length
      · subst he
        refine (Any2.slices_Insert_int_end_room Try.lays21 g o l.length cap gx 0 1 1 (nums [k]) w (by omega) hroom (by omega) rfl (fun j hj => by rw [Nat.add_assoc]; exact hsome _ (by omega)) (fun j hj => h2.free _) hvs h1v).mono ?_
        rintro e w' ⟨rfl, rfl⟩
        obtain ⟨cs', a1, a2, a3⟩ := Bk.setCells (nums [k]) (o + l.length) w cs h2
        refine ⟨_, rfl, Or.inr ⟨g, o, cap, cs', by rw [ins_len hat], h1, a1, by rw [ins_len hat]; exact hroom, by omega, by omega, fun j x hj => ?_⟩, setCells_grown _ _ _ _, fun g' hg' => Or.inl hg'⟩
        rw [ins_get hat] at hj
        rw [a3]
        by_cases c : j < l.length
        · rw [if_pos c] at hj
          rw [if_neg (by omega)]
          exact h6 j x hj
        · rw [if_neg c] at hj
          by_cases c2 : j = l.length
          · subst c2
            rw [if_pos rfl] at hj
            rw [if_pos ⟨by omega, by simp [nums], by omega⟩]
            simp only [Option.some.injEq] at hj
            subst hj
            simp [nums]
          · rw [if_neg c2, List.getElem?_eq_none (by omega)] at hj
            cases hj
      · have hlt : at_ < l.length := by omega
        refine (Any2.slices_Insert_int_shift Try.lays21 g o l.length cap at_ gx 0 1 1 (nums l) (nums [k]) w hlt (by omega) hroom (by omega) hgx (nums_length l) rfl hcs (fun j hj => hsome _ (by omega)) (fun j hj => h2.free _) hvs one_cell h1v 3 3 1 cs.size
          (by unfold Bk at hx; simp [World.shape?, hx]) (by unfold Bk at h2; simp [World.shape?, h2]) (by omega) (hx.free 0) (hx.free 1)).mono ?_
        rintro e w' ⟨rfl, rfl⟩
        obtain ⟨c1, a1, a2, a3⟩ := Bk.setCells ((nums l).drop at_) (o + (at_ + 1)) w.drew cs h2.drew
        obtain ⟨c2, b1, b2, b3⟩ := Bk.setCells (nums [k]) (o + at_) _ c1 a1
        refine ⟨_, rfl, Or.inr ⟨g, o, cap, c2, by rw [ins_len hat], h1, b1, by rw [ins_len hat]; exact hroom, by omega, by omega, fun j x hj => ?_⟩, grown_trans (grown_trans (drew_grown w _) (setCells_grown _ _ _ _)) (setCells_grown _ _ _ _), fun g' hg' => Or.inl hg'⟩
        rw [ins_get hat] at hj
        have hlk : (nums [k]).length = 1 := rfl
        have hld : ((nums l).drop at_).length = l.length - at_ := by rw [List.length_drop, nums_length]
        rw [b3, hlk]
        by_cases c : j < at_
        · rw [if_pos c] at hj
          rw [if_neg (by omega), a3, if_neg (by omega)]
          exact h6 j x hj
        · rw [if_neg c] at hj
          by_cases e : j = at_
          · subst e
            rw [if_pos rfl] at hj
            rw [if_pos (by omega)]
            simp only [Option.some.injEq] at hj
            subst hj
            simp [nums]
          · rw [if_neg e] at hj
            have hjl := (List.getElem?_eq_some_iff.1 hj).1
            rw [if_neg (by omega), a3, hld, if_pos (by omega), List.getElem?_drop]
            rw [show at_ + (o + j - (o + (at_ + 1))) = j - 1 by omega]
            exact nums_get hj
    · obtain rfl : cap = l.length := by omega
      have hge := grownCap_ge w (l.length + 1) l.length 3
      have hle := grownCap_le_maxLen w (l.length + 1) l.length 3 (by unfold maxLen; omega)
      unfold maxLen at hle
      by_cases he : at_ = l.length
      · subst he
        refine (Any2.slices_Insert_int_end_grow Try.lays21 (some ⟨g, o, none⟩) l.length l.length gx 0 1 1 (nums l) (nums [k]) w (by omega) (by omega) (by omega) (by omega) (nums_length l) rfl (fun e => by cases e)
          (fun a e j u hj => by cases e; rw [add_at]; exact hcs j u hj) hvs h1v).mono ?_
        rintro e w' ⟨rfl, rfl⟩
        simp only [ren3]
        have hF : FR (w.drew.alloc (.cells ((nums l ++ nums [k]).toArray ++ Builtin.zeroCells (Value.int .i64 0).cells (grownCap w (l.length + 1) l.length 3 - (l.length + 1))) 3)) w.heap.size (.slice (some ⟨w.heap.size, 0, none⟩) (l.length + 1) (grownCap w (l.length + 1) l.length 3)) (l.take l.length ++ k :: l.drop l.length) := by
          refine Or.inr ⟨w.heap.size, 0, _, _, by rw [ins_len hat], Nat.le_refl _, heap_alloc_new w.drew _, by rw [ins_len hat]; exact hge, ?_, ?_, fun j x hj => ?_⟩
          · simp [Builtin.zeroCells, Value.cells, nums]; omega
          · simp [Builtin.zeroCells, Value.cells, nums]; omega
          · have := nums_get hj
            have e : nums (l.take l.length ++ k :: l.drop l.length) = nums l ++ nums [k] := by simp [nums]
            rw [e] at this
            rw [Nat.zero_add]
            have hlt := (List.getElem?_eq_some_iff.1 this).1
            rw [Array.getElem?_append_left (by simpa using hlt), List.getElem?_toArray]
            exact this
        exact ⟨_, rfl, hF.mono hb, ⟨rfl, rfl, rfl, by simp, fun b hb' _ => Below.heap_alloc w.drew _ b hb'⟩, hF.fresh⟩
      · have hlt : at_ < l.length := by omega
        refine (Any2.slices_Insert_int_grow Try.lays21 g o l.length l.length at_ gx 0 1 1 (nums l) (nums [k]) w hlt (by omega) (by omega) (by omega) (by omega) (nums_length l) rfl hcs hvs one_cell h1v).mono ?_
        rintro e w' ⟨rfl, rfl⟩
        simp only [ren3]
        have hn0 := Bk.new w 3 (((nums l).take at_).toArray ++ Builtin.zeroCells (Value.int .i64 0).cells (l.length + 1 - at_) ++ Builtin.zeroCells (Value.int .i64 0).cells (grownCap w (l.length + 1) l.length 3 - (l.length + 1)))
        have hs0 : (((nums l).take at_).toArray ++ Builtin.zeroCells (Value.int .i64 0).cells (l.length + 1 - at_) ++ Builtin.zeroCells (Value.int .i64 0).cells (grownCap w (l.length + 1) l.length 3 - (l.length + 1))).size = grownCap w (l.length + 1) l.length 3 := by
          simp [Builtin.zeroCells, Value.cells, nums]; omega
        have hv0 : ∀ j x, j < at_ → l[j]? = some x → (((nums l).take at_).toArray ++ Builtin.zeroCells (Value.int .i64 0).cells (l.length + 1 - at_) ++ Builtin.zeroCells (Value.int .i64 0).cells (grownCap w (l.length + 1) l.length 3 - (l.length + 1)))[j]? = some (.int .i64 (x : Int)) := fun j x hj hx1 => by
          have hj2 : j < ((nums l).take at_).length := by rw [List.length_take, nums_length]; omega
          rw [Array.append_assoc, Array.getElem?_append_left (by simpa using hj2), List.getElem?_toArray, List.getElem?_take, if_pos hj]
          exact nums_get hx1
        generalize (((nums l).take at_).toArray ++ Builtin.zeroCells (Value.int .i64 0).cells (l.length + 1 - at_) ++ Builtin.zeroCells (Value.int .i64 0).cells (grownCap w (l.length + 1) l.length 3 - (l.length + 1))) = c0 at *
        have g0 : w.grownBy (w.alloc (.cells c0 3)).drew none := ⟨rfl, rfl, rfl, by simp, fun b hb' _ => Below.heap_alloc w _ b hb'⟩
        obtain ⟨c1, a1, a2, a3⟩ := Bk.setCells (nums [k]) at_ _ c0 hn0.drew
        obtain ⟨c2, b1, b2, b3⟩ := Bk.setCells ((nums l).drop at_) (at_ + 1) _ c1 a1.drew
        have g1 := grown_new g0 (setCells_grown (w.alloc (.cells c0 3)).drew w.heap.size at_ (nums [k])) (Nat.le_refl _)
        have g2 := grown_new (grown_trans g1 (drew_grown _ none)) (setCells_grown ((w.alloc (.cells c0 3)).drew.setCells w.heap.size at_ (nums [k])).drew w.heap.size (at_ + 1) ((nums l).drop at_)) (Nat.le_refl _)
        have hF : FR ((((w.alloc (.cells c0 3)).drew.setCells w.heap.size at_ (nums [k])).drew).setCells w.heap.size (at_ + 1) ((nums l).drop at_)) w.heap.size (.slice (some ⟨w.heap.size, 0, none⟩) (l.length + 1) (grownCap w (l.length + 1) l.length 3)) (l.take at_ ++ k :: l.drop at_) := by
          refine Or.inr ⟨w.heap.size, 0, _, c2, by rw [ins_len hat], Nat.le_refl _, b1, by rw [ins_len hat]; exact hge, by omega, by omega, fun j x hj => ?_⟩
          rw [ins_get hat] at hj
          have hlk : (nums [k]).length = 1 := rfl
          have hld : ((nums l).drop at_).length = l.length - at_ := by rw [List.length_drop, nums_length]
          rw [Nat.zero_add, b3, hld]
          by_cases c : j < at_
          · rw [if_pos c] at hj
            rw [if_neg (by omega), a3, if_neg (by omega)]
            exact hv0 j x c hj
          · rw [if_neg c] at hj
            by_cases e : j = at_
            · subst e
              rw [if_pos rfl] at hj
              rw [if_neg (by omega), a3, hlk, if_pos (by omega)]
              simp only [Option.some.injEq] at hj
              subst hj
              simp [nums]
            · rw [if_neg e] at hj
              have hjl := (List.getElem?_eq_some_iff.1 hj).1
              rw [if_pos (by omega), List.getElem?_drop]
              rw [show at_ + (j - (at_ + 1)) = j - 1 by omega]
              exact nums_get hj
        exact ⟨_, rfl, hF.mono hb, ⟨g2.os, g2.tape, g2.output, g2.size, fun b hb' _ => g2.block b hb' (by simp)⟩, hF.fresh⟩
end Go.Proofs.Ytecimlbdcldkdaa
