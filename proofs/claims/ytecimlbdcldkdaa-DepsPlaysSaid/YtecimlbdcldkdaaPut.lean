/- append of a row of places onto another; the walk of the document's Put. -/
import Derived.Test.YtecimlbdcldkdaaAwk
import Derived.Deep.AppendSrc
namespace Go.Proofs.Ytecimlbdcldkdaa
open Go.RowKit Dep

theorem frSrc {w : World} {base : Nat} {v : Value} {l : List Nat} (h : FR w base v l) : Src Try.prog 1 25 v l.length (nums l) w := by
  rcases h with ⟨rfl, rfl⟩ | ⟨g, o, cap, cs, rfl, h1, h2, h3, h4, h5, h6⟩
  · exact Src.ofNil w Try.underlying25 0
  · exact Src.ofSlice w Try.underlying25 _ _ _ _ (by rw [nums_length, Nat.mul_one]) (fun j u hj => by
      obtain ⟨x, hx, rfl⟩ := nums_at hj
      rw [add_at]
      exact h2.cell (h6 j x hx)) one_cell
theorem frMade {w : World} {L : List Nat} {cap n : Nat} (hn : n = L.length) (hge : n ≤ cap) (hle : cap ≤ 9223372036854775807) :
    FR (w.drew.alloc (.cells ((nums L).toArray ++ Builtin.zeroCells (Value.int .i64 0).cells (cap - n)) 3)) w.heap.size (.slice (some ⟨w.heap.size, 0, none⟩) n cap) L := by
  subst hn
  refine Or.inr ⟨w.heap.size, 0, _, _, rfl, Nat.le_refl _, heap_alloc_new w.drew _, hge, ?_, ?_, fun j x hj => ?_⟩
  · simp [Builtin.zeroCells, Value.cells]; rw [nums_length]; omega
  · simp [Builtin.zeroCells, Value.cells]; rw [nums_length]; omega
  · have h1 := nums_get hj
    have hlt := (List.getElem?_eq_some_iff.1 h1).1
    rw [show 0 + j = j by omega, Array.getElem?_append_left (by simpa using hlt), List.getElem?_toArray]
    exact h1
theorem wpList_append_eq {P : Program} {ops : Array Oper} {rest : List Oper} {o : Oper} {a : Act} {w w' : World} {Q : Exit → Act → World → Prop} {t tx ty : TypeId} {v1 v2 r : Value}
    (hrun : (Builtin.append_ #[t, tx] ty #[v1, v2]).run P w = .ok r w') (s x : Operand) (hgd : o.guard = none) (ho : o.op = Op.call { callee := Callee.builtin Builtin.append, args := #[s, x], argTypes := #[t, tx] }) (hty : o.type = ty)
    (hs : a.eval s = v1) (hx : a.eval x = v2) (h : wpList P ops Q rest (a.put o.dst r) w') : wpList P ops Q (o :: rest) a w := by
  subst hs hx hty
  exact wpList_append_run hgd s x t tx ho r hrun h
theorem nums_append (a b : List Nat) : nums (a ++ b) = nums a ++ nums b := by unfold nums; rw [List.map_append]
theorem append_none_nothing {w : World} {x : Value} {ty : TypeId} (hs : Src Try.prog 1 25 x 0 [] w) :
    (Builtin.append_ #[25, 25] ty #[.slice none 0 0, x]).run Try.prog w = .ok (.slice none 0 0) w := by
  obtain ⟨i, hi, hz, hs1, hb⟩ := info_parts infoInt
  have hc := hs.cells
  have h2 := hs.len
  simp [Builtin.append_, run_underlying Try.underlying25, sizeOf, typeInfo, hi, h2, hs1, hc]

/-- append(v, src...) -/
theorem frAppend {w : World} {base : Nat} {v : Value} {l : List Nat} (h : FR w base v l) {src : Value} {l2 : List Nat} (hs : Src Try.prog 1 25 src l2.length (nums l2) w) (hl : l.length + l2.length ≤ 1000000) (hb : base ≤ w.heap.size) :
    ∃ r w', (Builtin.append_ #[25, 25] 25 #[v, src]).run Try.prog w = .ok r w' ∧ FR w' base r (l ++ l2) ∧ w.grownBy w' v.ownBlock ∧ Fresh w v r := by
  obtain ⟨i, hi, hz, hs1, hby⟩ := info_parts infoInt
  have grow : ∀ (b : Option Addr) (sLen sCap : Nat), sLen = l.length → (Builtin.firstCells i.size sLen (.slice b sLen sCap)).run Try.prog w.drew = .ok (nums l).toArray w.drew → sCap < sLen + l2.length → (b = none → True) →
      ∃ r w', (Builtin.append_ #[25, 25] 25 #[.slice b sLen sCap, src]).run Try.prog w = .ok r w' ∧ FR w' base r (l ++ l2) ∧ w.grownBy w' (Value.slice b sLen sCap).ownBlock ∧ Fresh w (.slice b sLen sCap) r := by
    intro b sLen sCap hsl hold hlt _
    have hfit : Builtin.nextslicecap (sLen + l2.length) sCap * i.bytes ≤ 281474976710656 := by
      rw [hby]
      have := nextslicecap_le (need := sLen + l2.length) (old := sCap) (by omega)
      omega
    have hr := run_append_grow_src (P := Try.prog) w 25 25 25 3 i _ Try.underlying25 hi hz b sLen sCap (nums l) hold src l2.length (nums l2) (by rw [hs1]; exact hs) hlt (by omega) hfit
    have hge := grownCap_ge w (sLen + l2.length) sCap 3
    have hle := grownCap_le_maxLen w (sLen + l2.length) sCap 3 (by unfold maxLen; omega)
    unfold maxLen at hle
    rw [← nums_append] at hr
    have hF := frMade (w := w) (L := l ++ l2) (n := sLen + l2.length) (by rw [List.length_append, hsl]) hge (by omega)
    exact ⟨_, _, hr, hF.mono hb, ⟨rfl, rfl, rfl, by simp, fun b hb' _ => Below.heap_alloc w.drew _ b hb'⟩, hF.fresh⟩
  rcases h with ⟨rfl, rfl⟩ | ⟨g, o, cap, cs, rfl, h1, h2, h3, h4, h5, h6⟩
  · cases l2 with
    | nil => exact ⟨_, w, append_none_nothing hs, Or.inl ⟨rfl, rfl⟩, World.grownBy.refl _ _, fun g hg => Or.inl hg⟩
    | cons x l2 => exact grow none 0 0 rfl (by simp [Builtin.firstCells, nums]) (by simp) (fun _ => trivial)
  · by_cases hroom : l.length + l2.length ≤ cap
    · have hr := run_append_room_src (P := Try.prog) w 25 25 25 3 i Try.underlying25 hi g o l.length cap src l2.length (nums l2) (by rw [hs1]; exact hs) hroom
        (fun j hj => by
          rw [nums_length] at hj
          rw [hs1, Nat.mul_one, h2.cell (Array.getElem?_eq_getElem (show o + l.length + j < cs.size by omega))]
          rfl)
        (fun j hj => h2.free _)
      rw [hs1, Nat.mul_one] at hr
      obtain ⟨cs', a1, a2, a3⟩ := Bk.setCells (nums l2) (o + l.length) w cs h2
      refine ⟨_, _, hr, Or.inr ⟨g, o, cap, cs', by rw [List.length_append], h1, a1, by rw [List.length_append]; exact hroom, by omega, by omega, fun j x hj => ?_⟩, setCells_grown _ _ _ _, fun g' hg' => Or.inl hg'⟩
      rw [a3, nums_length]
      have hjl := (List.getElem?_eq_some_iff.1 hj).1
      rw [List.length_append] at hjl
      by_cases c : j < l.length
      · rw [if_neg (by omega)]
        rw [List.getElem?_append_left c] at hj
        exact h6 j x hj
      · rw [if_pos (by omega), show o + j - (o + l.length) = j - l.length by omega]
        rw [List.getElem?_append_right (by omega)] at hj
        exact nums_get hj
    · refine grow (some ⟨g, o, none⟩) l.length cap rfl ?_ (by omega) (fun h => by cases h)
      rw [hs1]
      exact run_firstCells_some w.drew 1 l.length _ _ _ _ (by rw [nums_length, Nat.mul_one]) (fun j u hj => by
        obtain ⟨x, hx, rfl⟩ := nums_at hj
        rw [add_at]
        exact h2.cell (h6 j x hx))
theorem FR.take {w : World} {base : Nat} {A : Option Addr} {m cap : Nat} {l : List Nat} (h : FR w base (.slice A m cap) l) {k : Nat} (hk : k ≤ m) : FR w base (.slice A k cap) (l.take k) := by
  have hl := h.len
  rcases h with ⟨e, rfl⟩ | ⟨g, o, cap', cs, e, h1, h2, h3, h4, h5, h6⟩
  · simp only [Value.slice.injEq] at e
    obtain ⟨rfl, rfl, rfl⟩ := e
    obtain rfl : k = 0 := by omega
    exact Or.inl ⟨rfl, rfl⟩
  · simp only [Value.slice.injEq] at e
    obtain ⟨rfl, rfl, rfl⟩ := e
    have ht : (l.take k).length = k := by rw [List.length_take]; omega
    exact Or.inr ⟨g, o, cap, cs, by rw [ht], h1, h2, by omega, h4, h5, fun j x hj => h6 j x (by
      rw [List.getElem?_take] at hj
      split at hj
      · exact hj
      · cases hj)⟩
/-- s[k:] -/
theorem FR.drop {w : World} {base : Nat} {g o m cap : Nat} {l : List Nat} (h : FR w base (.slice (some ⟨g, o, none⟩) m cap) l) {k : Nat} (hk : k ≤ m) : m ≤ cap ∧ FR w base (.slice (some (if cap = k then ⟨g, o, none⟩ else ⟨g, o + k, none⟩)) (m - k) (cap - k)) (l.drop k) := by
  have hl := h.len
  rcases h with ⟨e, rfl⟩ | ⟨g', o', cap', cs, e, h1, h2, h3, h4, h5, h6⟩
  · cases e
  · simp only [Value.slice.injEq, Option.some.injEq, Addr.mk.injEq] at e
    obtain ⟨⟨rfl, rfl, _⟩, rfl, rfl⟩ := e
    have ht : (l.drop k).length = l.length - k := by rw [List.length_drop]
    refine ⟨h3, ?_⟩
    by_cases hc : cap = k
    · rw [if_pos hc]
      obtain rfl : k = l.length := by omega
      rw [List.drop_length]
      exact Or.inr ⟨g, o, cap - l.length, cs, by rw [List.length_nil, Nat.sub_self], h1, h2, by simp, by omega, h5, fun j y hy => by cases hy⟩
    · rw [if_neg hc]
      refine Or.inr ⟨g, o + k, cap - k, cs, by rw [ht], h1, h2, by omega, by omega, h5, fun j y hy => ?_⟩
      rw [Nat.add_assoc]
      exact h6 (k + j) y (by rw [List.getElem?_drop] at hy; exact hy)

/-- what Put tells: the rising row with one more -/
def PutSaid (base : Nat) (v : Value) (l : List Nat) (x : Nat) (w : World) (e : Ending) (w' : World) : Prop :=
  ∃ A m c l', e = .returned (.slice A m c) ∧ FR w' base (.slice A m c) l' ∧ l'.Pairwise (· < ·) ∧ (∀ y, y ∈ l' ↔ y = x ∨ y ∈ l) ∧ Below w.heap.size w w' ∧ Fresh w v (.slice A m c)

set_option maxRecDepth 100000 in
set_option maxHeartbeats 4000000 in
theorem put_any {w : World} {base : Nat} {A : Option Addr} {m cap : Nat} {l : List Nat} (h : FR w base (.slice A m cap) l) (hb : base ≤ w.heap.size) (hm : m ≤ 900000) (hr : l.Pairwise (· < ·)) (x : Nat) :
    Calls Try.prog 33 #[.slice A m cap, .int .i64 (x : Int)] w (PutSaid base (.slice A m cap) l x w) := by
  have H := Lib.hid (show _ ∧ _ ∧ _ from ⟨h, hb, hr⟩)
  have hml := Lib.hid h.len
  have hmc : (m : Int) ≤ 900000 := by omega
  clear h hb hr
  go_enter Try.func33, Try.ntmps33
  go_wp2_with fail
  go_loopg [5] m (fun g s5 wr => ∃ k : Nat, k ≤ m ∧ g = m - k ∧ s5 = .int .i64 k ∧ Hid (∀ j y, j < k → l[j]? = some y → y < x) ∧ w = wr)
  case atStart => exact ⟨0, by omega, by omega, rfl, Lib.hid (fun j y hj => by omega), rfl⟩
  case round =>
    obtain ⟨k, hk, hg, rfl, HK, rfl⟩ := hrel
    have i0 : (0 : Int) ≤ (k : Int) := by omega
    by_cases hlt : k < m
    · have i1 : (k : Int) < (m : Int) := by omega
      obtain ⟨y, hy⟩ : ∃ y, l[k]? = some y := ⟨_, List.getElem?_eq_getElem (by rw [← hml.out]; exact hlt)⟩
      obtain ⟨g, o, rfl, c0⟩ := H.out.1.cellAt hy
      have HY := Lib.hid hy
      clear hy
      by_cases hyx : (y : Int) < (x : Int)
      · go_wp2_with fail
        go_roundg (m - (k + 1))
        case measure => omega
        case rel =>
          refine ⟨k + 1, by omega, rfl, by go_num, Lib.hid fun j z hj hz => ?_, rfl⟩
          by_cases e : j = k
          · rw [e, HY.out] at hz
            simp only [Option.some.injEq] at hz
            omega
          · exact HK.out j z (by omega) hz
      · by_cases hye : (y : Int) = (x : Int)
        · obtain rfl : y = x := by omega
          go_wp2_with fail
          go_ret
          refine ⟨_, _, _, l, rfl, H.out.1, H.out.2.2, fun z => ⟨Or.inr, fun h => ?_⟩, Below.refl _ _, fun g hg => Or.inl hg⟩
          rcases h with h | h
          · rw [h]; exact List.mem_of_getElem? HY.out
          · exact h
        · have HNE := Lib.hid (show ∀ z, l[k]? = some z → x < z from fun z hz => by rw [HY.out] at hz; simp only [Option.some.injEq] at hz; omega)
          obtain ⟨hmc2, hD⟩ := H.out.1.drop hk
          have h1 := frAppend (w := w) (base := w.heap.size) (v := .slice none 0 0) (Or.inl ⟨rfl, rfl⟩) (frSrc (H.out.1.take hk)) (by rw [List.length_nil, List.length_take]; omega) (Nat.le_refl _)
          obtain ⟨r1, w1, e1, f1, g1, _⟩ := h1
          rw [List.nil_append] at f1
          obtain ⟨A1, c1, q1⟩ := f1.form
          have hlt1 : (l.take k).length = k := by rw [List.length_take, ← hml.out]; omega
          rw [hlt1] at q1
          subst q1
          have b1 : Below w.heap.size w w1 := (Below.refl _ w).grown g1 (Nat.le_refl _) (fun k hk => by simp [Value.ownBlock] at hk)
          have f1' : FR (w1.alloc (.cells #[.int .i64 (x : Int)] 3)) w.heap.size (.slice A1 k c1) (l.take k) := f1.keep fun g _ hl => Below.heap_alloc w1 _ g hl
          obtain ⟨r2, w2, e2, f2, g2, _⟩ := f1'.append_run (by rw [hlt1]; omega) w1.heap.size x ((Bk.new w1 3 #[.int .i64 (x : Int)]).cell (i := 0) rfl) (Nat.le_trans b1.size (by simp))
          obtain ⟨A2, c2, q2⟩ := f2.form
          rw [List.length_append, hlt1, List.length_singleton] at q2
          subst q2
          have b2 : Below w.heap.size w w2 := (b1.alloc b1.size _).grown g2 (Nat.le_trans b1.size (by simp)) (fun k hk => (f1.lt k hk).1)
          have hD2 := hD.pass b2
          obtain ⟨r3, w3, e3, f3, g3, _⟩ := frAppend f2 (frSrc hD2) (by have := hml.out; rw [List.length_append, hlt1, List.length_singleton, List.length_drop]; omega) b2.size
          have b3 : Below w.heap.size w w3 := b2.grown g3 b2.size (fun k hk => (f2.lt k hk).1)
          obtain ⟨A3, c3, q3⟩ := f3.form
          have E1 := Lib.hid e1
          have E2 := Lib.hid e2
          have E3 := Lib.hid e3
          have F3 := Lib.hid (show _ ∧ _ ∧ _ from ⟨f3, q3, b3⟩)
          clear e1 e2 e3 f1 f2 f3 f1' g1 g2 g3 b1 b2 b3 hD hD2 q3
          have kc : (k : Int) ≤ (cap : Int) := by omega
          have kc2 : (k : Int) ≤ (m : Int) := by omega
          have hcap : ¬ cap = k := by omega
          rw [if_neg hcap] at E3
          have e0 : ((y : Int) == (x : Int)) = false := by simp; omega
          go_upto_region 8 with (at_builtin; refine wpList_append_eq E1.out _ _ rfl rfl rfl rfl rfl ?_)
          go_upto_region 9 with (at_builtin; refine wpList_append_eq E2.out _ _ rfl rfl rfl rfl rfl ?_)
          go_wp2_with (at_builtin; refine wpList_append_eq E3.out _ _ rfl rfl rfl rfl rfl ?_)
          go_ret
          obtain ⟨f3, q3, b3⟩ := F3.out
          refine ⟨A3, _, c3, _, congrArg Ending.returned q3, by rw [← q3]; exact f3.mono H.out.2.1, ?_, ?_, b3, by rw [← q3]; exact f3.fresh⟩
          · have hp := H.out.2.2
            rw [List.append_assoc, List.singleton_append, List.pairwise_append, List.pairwise_cons]
            refine ⟨hp.take, ⟨fun z hz => ?_, hp.drop⟩, fun u hu z hz => ?_⟩
            · obtain ⟨j, hj, rfl⟩ := List.mem_iff_getElem.1 hz
              rw [List.getElem_drop]
              rw [List.length_drop] at hj
              have hkl : k < l.length := by omega
              have h1 := HNE.out l[k] (List.getElem?_eq_getElem hkl)
              by_cases e : j = 0
              · subst e; simpa using h1
              · have := List.pairwise_iff_getElem.1 hp k (k + j) hkl (by omega) (by omega)
                omega
            · obtain ⟨j, hj, rfl⟩ := List.mem_iff_getElem.1 hu
              rw [List.getElem_take]
              rw [List.length_take] at hj
              have hlj := HK.out j l[j] (by omega) (List.getElem?_eq_getElem (by omega))
              rcases List.mem_cons.1 hz with e | e
              · rw [e]; exact hlj
              · obtain ⟨i, hi, rfl⟩ := List.mem_iff_getElem.1 e
                rw [List.getElem_drop]
                rw [List.length_drop] at hi
                have := List.pairwise_iff_getElem.1 hp j (k + i) (by omega) (by omega) (by omega)
                exact this
          · intro z
            rw [List.append_assoc, List.singleton_append, List.mem_append, List.mem_cons]
            constructor
            · rintro (h | h | h)
              · exact Or.inr (List.mem_of_mem_take h)
              · exact Or.inl h
              · exact Or.inr (List.mem_of_mem_drop h)
            · rintro (h | h)
              · exact Or.inr (Or.inl h)
              · rw [← List.take_append_drop k l, List.mem_append] at h
                rcases h with h | h
                · exact Or.inl h
                · exact Or.inr (Or.inr h)
    · obtain rfl : m = k := by omega
      have h1 := frAppend (w := w) (base := w.heap.size) (v := .slice none 0 0) (Or.inl ⟨rfl, rfl⟩) (frSrc H.out.1) (by rw [List.length_nil, ← hml.out]; omega) (Nat.le_refl _)
      obtain ⟨r1, w1, e1, f1, g1, _⟩ := h1
      rw [List.nil_append] at f1
      obtain ⟨A1, c1, q1⟩ := f1.form
      rw [← hml.out] at q1
      subst q1
      have b1 : Below w.heap.size w w1 := (Below.refl _ w).grown g1 (Nat.le_refl _) (fun k hk => by simp [Value.ownBlock] at hk)
      have f1' : FR (w1.alloc (.cells #[.int .i64 (x : Int)] 3)) w.heap.size (.slice A1 m c1) l := f1.keep fun g _ hl => Below.heap_alloc w1 _ g hl
      obtain ⟨r2, w2, e2, f2, g2, _⟩ := f1'.append_run (by rw [← hml.out]; omega) w1.heap.size x ((Bk.new w1 3 #[.int .i64 (x : Int)]).cell (i := 0) rfl) (Nat.le_trans b1.size (by simp))
      obtain ⟨A2, c2, q2⟩ := f2.form
      rw [List.length_append, ← hml.out, List.length_singleton] at q2
      subst q2
      have b2 : Below w.heap.size w w2 := (b1.alloc b1.size _).grown g2 (Nat.le_trans b1.size (by simp)) (fun k hk => (f1.lt k hk).1)
      have hL : Hid ((l ++ [x]).Pairwise (· < ·) ∧ ∀ y, y ∈ l ++ [x] ↔ y = x ∨ y ∈ l) := Lib.hid ⟨by
        rw [List.pairwise_append]
        refine ⟨H.out.2.2, by simp, fun u hu z hz => ?_⟩
        obtain ⟨j, hj, rfl⟩ := List.mem_iff_getElem.1 hu
        simp only [List.mem_singleton] at hz
        rw [hz]
        exact HK.out j l[j] (by rw [hml.out]; exact hj) (List.getElem?_eq_getElem hj), fun y => by rw [List.mem_append, List.mem_singleton]; exact ⟨fun h => h.symm, fun h => h.symm⟩⟩
      have tail : ∀ src, Src Try.prog 1 25 src 0 [] w2 → ∃ A3 c3 w3, (Builtin.append_ #[25, 25] 25 #[.slice A2 (m + 1) c2, src]).run Try.prog w2 = .ok (.slice A3 (m + 1) c3) w3 ∧ FR w3 w.heap.size (.slice A3 (m + 1) c3) (l ++ [x]) ∧ Below w.heap.size w w3 := fun src hs => by
        obtain ⟨r3, w3, e3, f3, g3, _⟩ := frAppend f2 (l2 := []) hs (by rw [List.length_append, ← hml.out, List.length_singleton, List.length_nil]; omega) b2.size
        rw [List.append_nil] at f3
        obtain ⟨A3, c3, q3⟩ := f3.form
        rw [List.length_append, ← hml.out, List.length_singleton] at q3
        subst q3
        exact ⟨A3, c3, w3, e3, f3, b2.grown g3 b2.size fun k hk => (f2.lt k hk).1⟩
      have E1 := Lib.hid e1
      have E2 := Lib.hid e2
      have hcase : (A = none ∧ m = 0 ∧ cap = 0) ∨ ∃ g o, A = some ⟨g, o, none⟩ ∧ m ≤ cap := by
        rcases H.out.1 with ⟨e, _⟩ | ⟨g, o, cap', cs, e, h1, h2, h3, _⟩
        · simp only [Value.slice.injEq] at e; exact Or.inl e
        · simp only [Value.slice.injEq] at e; exact Or.inr ⟨g, o, e.1, by rw [e.2.2, e.2.1]; exact h3⟩
      clear e1 e2 f1 f2 f1' g1 g2 b1 b2
      rcases hcase with ⟨rfl, rfl, rfl⟩ | ⟨g, o, rfl, hmc2⟩
      · obtain ⟨A3, c3, w3, e3, F3⟩ := tail (.slice none 0 0) (Src.ofNil w2 Try.underlying25 0)
        have E3 := Lib.hid e3
        have FF := Lib.hid F3
        clear e3 F3 tail
        go_upto_region 8 with (at_builtin; refine wpList_append_eq E1.out _ _ rfl rfl rfl rfl rfl ?_)
        go_upto_region 9 with (at_builtin; refine wpList_append_eq E2.out _ _ rfl rfl rfl rfl rfl ?_)
        go_wp2_with (at_builtin; refine wpList_append_eq E3.out _ _ rfl rfl rfl rfl rfl ?_)
        go_ret
        exact ⟨A3, _, c3, _, rfl, FF.out.1.mono H.out.2.1, hL.out.1, hL.out.2, FF.out.2, FF.out.1.fresh⟩
      · have kc : (m : Int) ≤ (cap : Int) := by omega
        by_cases hcap : cap = m
        · subst hcap
          obtain ⟨A3, c3, w3, e3, F3⟩ := tail (.slice (some ⟨g, o, none⟩) 0 0) (Src.ofSlice w2 Try.underlying25 _ 0 0 [] rfl (fun j u hj => by cases hj) (fun u hu => by cases hu))
          have E3 := Lib.hid e3
          have FF := Lib.hid F3
          clear e3 F3 tail
          go_upto_region 8 with (at_builtin; refine wpList_append_eq E1.out _ _ rfl rfl rfl rfl rfl ?_)
          go_upto_region 9 with (at_builtin; refine wpList_append_eq E2.out _ _ rfl rfl rfl rfl rfl ?_)
          go_wp2_with (at_builtin; refine wpList_append_eq E3.out _ _ rfl rfl rfl rfl rfl ?_)
          go_ret
          exact ⟨A3, _, c3, _, rfl, FF.out.1.mono H.out.2.1, hL.out.1, hL.out.2, FF.out.2, FF.out.1.fresh⟩
        · obtain ⟨A3, c3, w3, e3, F3⟩ := tail (.slice (some ⟨g, o + m, none⟩) 0 (cap - m)) (Src.ofSlice w2 Try.underlying25 _ 0 _ [] rfl (fun j u hj => by cases hj) (fun u hu => by cases hu))
          have E3 := Lib.hid e3
          have FF := Lib.hid F3
          clear e3 F3 tail
          go_upto_region 8 with (at_builtin; refine wpList_append_eq E1.out _ _ rfl rfl rfl rfl rfl ?_)
          go_upto_region 9 with (at_builtin; refine wpList_append_eq E2.out _ _ rfl rfl rfl rfl rfl ?_)
          go_wp2_with (at_builtin; refine wpList_append_eq E3.out _ _ rfl rfl rfl rfl rfl ?_)
          go_ret
          exact ⟨A3, _, c3, _, rfl, FF.out.1.mono H.out.2.1, hL.out.1, hL.out.2, FF.out.2, FF.out.1.fresh⟩
end Go.Proofs.Ytecimlbdcldkdaa
