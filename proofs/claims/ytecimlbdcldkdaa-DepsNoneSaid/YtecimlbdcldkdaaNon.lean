/- Walk of DepsNone. -/
import Derived.Test.YtecimlbdcldkdaaFin
namespace Go.Proofs.Ytecimlbdcldkdaa
open Go.RowKit Go.Maps Dep

theorem fin_zero {w : World} {base : Nat} {d : GD} (h : Gm w base d GS.none) (x : Int) (hx : In64 x) (b : Bool) :
    Calls Try.prog 22 #[.pointer (some ⟨d.G, 0, none⟩), .int .i64 x, .bool b] w fun e w' => e = .returned (.tuple #[.slice none 0 0, .slice none 0 0, .int .i64 90]) ∧ Below w.heap.size w w' := by
  refine (fin_any h (by decide) (fun i hi => absurd hi (Nat.not_lt_zero _)) (fun i hi => absurd hi (Nat.not_lt_zero _)) (fun i hi => absurd hi (Nat.not_lt_zero _)) x hx b).mono fun e w' hs => ?_
  rcases hs with ⟨_, h1, h2⟩ | ⟨i, hi, _⟩ | ⟨i, hi, _⟩
  · exact ⟨h1, h2⟩
  · exact absurd hi (Nat.not_lt_zero _)
  · exact absurd hi (Nat.not_lt_zero _)
theorem numsOut_nil (w : World) (d : GD) (s : GS) : NumsOut w d s none 0 (fun _ => 0) := ⟨by omega, fun j => (by show In64 0; unfold In64; omega), fun h => absurd h (by omega)⟩
/-- below 1, nothing is put in -/
theorem add_low {w : World} {base : Nat} {d : GD} {s : GS} (h : Gm w base d s) (hN : s.N ≤ 1000) (hbl : ∀ i, i < s.N → (s.bl i).length ≤ 1000) (hb0 : base ≤ w.heap.size) (x : Int) (hx64 : In64 x) (A : Option Addr) (n c : Nat) (e : Nat → Int) (hA : NumsOut w d s A n e) (hx : x < 1) :
    Calls Try.prog 20 #[.pointer (some ⟨d.G, 0, none⟩), .int .i64 x, .slice A n c] w fun r w' => r = .returned (.tuple #[.bool false, .int .i64 1]) ∧ w' = w := by
  refine (add_any h hN hbl hb0 x hx64 A n c e hA).mono fun r w' hs => ?_
  rcases hs with ⟨h1, ⟨_, h2⟩ | ⟨h2, _⟩ | ⟨h2, _⟩⟩ | ⟨h2, _⟩
  · exact ⟨h2, h1⟩
  all_goals omega
theorem add_self {w : World} {base : Nat} {d : GD} (h : Gm w base d GS.none) (hb0 : base ≤ w.heap.size) (x : Int) (hx64 : In64 x) (A : Option Addr) (c : Nat) (hA : NumsOut w d GS.none A 1 (fun _ => x)) (hx : 1 ≤ x) :
    Calls Try.prog 20 #[.pointer (some ⟨d.G, 0, none⟩), .int .i64 x, .slice A 1 c] w fun r w' => r = .returned (.tuple #[.bool false, .int .i64 90]) ∧ w' = w := by
  refine (add_any h (by decide) (fun i hi => absurd hi (Nat.not_lt_zero _)) hb0 x hx64 A 1 c _ hA).mono fun r w' hs => ?_
  rcases hs with ⟨h1, ⟨h2, _⟩ | ⟨_, ⟨i, hi, _⟩, _⟩ | ⟨_, _, _, h2⟩⟩ | ⟨_, _, h2, _⟩
  · omega
  · exact absurd hi (Nat.not_lt_zero _)
  · exact ⟨h2, h1⟩
  · obtain ⟨i, hi, _⟩ := h2 0 (by omega)
    exact absurd hi (Nat.not_lt_zero _)
/-- a graph of one job -/
structure One (s : GS) (x : Int) : Prop where
  N : s.N = 1
  id : (s.id 0 : Int) = x
  ov : s.ov 0 = false
  ws : s.ws 0 = []
  bl : s.bl 0 = []
theorem add_one {w : World} {base : Nat} {d : GD} (h : Gm w base d GS.none) (hb0 : base ≤ w.heap.size) (x : Int) (hx64 : In64 x) (hx : 1 ≤ x) :
    Calls Try.prog 20 #[.pointer (some ⟨d.G, 0, none⟩), .int .i64 x, .slice none 0 0] w fun r w' => ∃ d' s', r = .returned (.tuple #[.bool false, .int .i64 0]) ∧ Gm w' base d' s' ∧ One s' x ∧ d'.G = d.G ∧ Below base w w' := by
  refine (add_any h (by decide) (fun i hi => absurd hi (Nat.not_lt_zero _)) hb0 x hx64 none 0 0 _ (numsOut_nil _ _ _)).mono fun r w' hs => ?_
  rcases hs with ⟨h1, ⟨h2, _⟩ | ⟨_, ⟨i, hi, _⟩, _⟩ | ⟨_, _, ⟨j, hj, _⟩, h2⟩⟩ | ⟨_, _, _, k, b, d', s', e1, e2, e3, e4, e5, e6, e7⟩
  · omega
  · exact absurd hi (Nat.not_lt_zero _)
  · omega
  · have hb : b = false := by
      cases b with
      | false => rfl
      | true => obtain ⟨j, hj, _⟩ := e4.bad.1 rfl; omega
    subst hb
    have hN : s'.N = 1 := e4.N
    refine ⟨d', s', e2, e3, ⟨hN, ?_, ?_, List.eq_nil_of_length_eq_zero (by have := e4.wn; change (s'.ws 0).length ≤ 0 at this; omega), e4.bn⟩, e5, e7.toBelow (Below.refl _ _) hb0 fun b hb => (h.foot_lt b hb).1⟩
    · rw [e4.id]; show ((upd _ 0 k 0 : Nat) : Int) = x
      rw [upd_same, e1]
    · rw [e4.ov]; show upd _ 0 false 0 = false
      rw [upd_same]
theorem add_two {w : World} {base : Nat} {d : GD} {s : GS} (h : Gm w base d s) (x : Int) (h1 : One s x) (hb0 : base ≤ w.heap.size) (hx64 : In64 x) (hx : 1 ≤ x) :
    Calls Try.prog 20 #[.pointer (some ⟨d.G, 0, none⟩), .int .i64 x, .slice none 0 0] w fun r w' => r = .returned (.tuple #[.bool false, .int .i64 51]) ∧ w' = w := by
  have hin : ∃ i, i < s.N ∧ (s.id i : Int) = x := ⟨0, by rw [h1.N]; omega, h1.id⟩
  refine (add_any h (by rw [h1.N]; omega) (fun i hi => ?_) hb0 x hx64 none 0 0 _ (numsOut_nil _ _ _)).mono fun r w' hs => ?_
  · rw [h1.N] at hi
    obtain rfl : i = 0 := by omega
    rw [h1.bl]; simp
  · rcases hs with ⟨h1, ⟨h2, _⟩ | ⟨_, _, h2⟩ | ⟨_, h2, _⟩⟩ | ⟨_, h2, _⟩
    · omega
    · exact ⟨h2, h1⟩
    · exact absurd hin h2
    · exact absurd hin h2
/-- the one job that is finished -/
structure OneOver (s : GS) (x : Int) : Prop where
  N : s.N = 1
  id : (s.id 0 : Int) = x
  ov : s.ov 0 = true
  bl : s.bl 0 = []
theorem fin_one {w : World} {base : Nat} {d : GD} {s : GS} (h : Gm w base d s) (x : Int) (h1 : One s x) (hb0 : base ≤ w.heap.size) (hx64 : In64 x) (b : Bool) :
    Calls Try.prog 22 #[.pointer (some ⟨d.G, 0, none⟩), .int .i64 x, .bool b] w fun r w' => ∃ R D s', r = .returned (.tuple #[R, D, .int .i64 0]) ∧ Gm w' base d s' ∧ OneOver s' x ∧ Below base w w' := by
  have h0 : ∀ i, i < s.N → i = 0 := fun i hi => by rw [h1.N] at hi; omega
  refine (fin_any h (by rw [h1.N]; omega) (fun i hi => by rw [h0 i hi, h1.bl]; simp) (fun i hi y hy => by rw [h0 i hi, h1.bl] at hy; cases hy) (fun i hi => by rw [h0 i hi, h1.bl]; exact List.nodup_nil) x hx64 b).mono fun r w' hs => ?_
  rcases hs with ⟨hn, _⟩ | ⟨i, hi, _, hn, _⟩ | ⟨i, hi, e1, e2, e3, A, m, c, R, B, n, c2, D, ov', e4, e5, e6, _, _, _, _, _, _, e7⟩
  · exact absurd ⟨0, by rw [h1.N]; omega, h1.id⟩ hn
  · rw [h0 i hi] at hn
    exact absurd ⟨h1.ov, h1.ws⟩ hn
  · have := h0 i hi
    subst this
    exact ⟨_, _, _, e4, e6, ⟨h1.N, h1.id, e5.own, h1.bl⟩, e7.toBelow (Below.refl _ _) hb0 fun b hb => (h.foot_lt b hb).1⟩
theorem fin_two {w : World} {base : Nat} {d : GD} {s : GS} (h : Gm w base d s) (x : Int) (h1 : OneOver s x) (hx64 : In64 x) (b : Bool) :
    Calls Try.prog 22 #[.pointer (some ⟨d.G, 0, none⟩), .int .i64 x, .bool b] w fun r w' => r = .returned (.tuple #[.slice none 0 0, .slice none 0 0, .int .i64 100]) ∧ Below w.heap.size w w' := by
  have h0 : ∀ i, i < s.N → i = 0 := fun i hi => by rw [h1.N] at hi; omega
  refine (fin_any h (by rw [h1.N]; omega) (fun i hi => by rw [h0 i hi, h1.bl]; simp) (fun i hi y hy => by rw [h0 i hi, h1.bl] at hy; cases hy) (fun i hi => by rw [h0 i hi, h1.bl]; exact List.nodup_nil) x hx64 b).mono fun r w' hs => ?_
  rcases hs with ⟨hn, _⟩ | ⟨i, hi, _, hn, h2, h3⟩ | ⟨i, hi, e1, e2, e3, _⟩
  · exact absurd ⟨0, by rw [h1.N]; omega, h1.id⟩ hn
  · exact ⟨h2, h3⟩
  · rw [h0 i hi, h1.ov] at e2
    cases e2

set_option maxRecDepth 100000 in
set_option maxHeartbeats 4000000 in
theorem walk_DepsNone (x : Int) (b : Bool) {w : World} (hx : In64 x) :
    Calls Try.prog 9 #[.int .i64 x, .bool b] w fun e w' => e = .returned (.bool true) ∧ Below w.heap.size w w' := by
  have HX := Lib.hid hx
  clear hx
  go_enter Try.func9, Try.ntmps9
  go_wp2_with fail
  refine (awake_any w).mono ?_
  rintro e w1 ⟨rfl, B1⟩
  have HB1 := Lib.hid B1
  clear B1
  go_wp2_with fail
  refine (add_nil w1 x none 0 0).mono ?_
  rintro e w2 ⟨rfl, rfl⟩
  go_wp2_with fail
  refine (fin_nil w2 x b).mono ?_
  rintro e w3 ⟨rfl, B3⟩
  have HB3 := Lib.hid (HB1.out.trans (B3.mono HB1.out.size))
  clear B3
  go_wp2_with fail
  refine (ready_nil w3).mono ?_
  rintro e w4 ⟨rfl, rfl⟩
  go_wp2_with fail
  refine (waits_nil w4 x).mono ?_
  rintro e w5 ⟨rfl, rfl⟩
  go_wp2_with fail
  refine (new_any w5).mono ?_
  rintro e w6 ⟨d, rfl, G6, B6⟩
  have H6 := Lib.hid (show _ ∧ _ ∧ _ from ⟨G6, B6, HB3.out.trans (B6.mono HB3.out.size)⟩)
  clear G6 B6
  go_wp2_with fail
  refine (fin_zero H6.out.1 x HX.out b).mono ?_
  rintro e w7 ⟨rfl, B7⟩
  have H7 := Lib.hid (show _ ∧ _ ∧ _ from ⟨H6.out.1.pass B7, Nat.le_trans H6.out.2.1.size B7.size, H6.out.2.2.trans (B7.mono H6.out.2.2.size)⟩)
  clear B7
  have hN : NumsOut (w7.alloc (.cells #[.int .i64 x] 3)) d GS.none (some ⟨w7.heap.size, 0, none⟩) 1 (fun _ => x) := by
    refine ⟨by omega, fun _ => HX.out, fun _ => ⟨w7.heap.size, 0, rfl, fun c => by have := (H7.out.1.foot_lt _ c).2; omega, fun j hj => ?_⟩⟩
    obtain rfl : j = 0 := by omega
    exact (Bk.new w7 3 #[.int .i64 x]).cell rfl
  have HN := Lib.hid hN
  clear hN
  have hb8 : w7.heap.size ≤ (w7.alloc (.cells #[.int .i64 x] 3)).heap.size := by simp
  have HB8 := Lib.hid (show Below w.heap.size w (w7.alloc (.cells #[.int .i64 x] 3)) from H7.out.2.2.alloc H7.out.2.2.size _)
  have HZ := Lib.hid (show w5.heap.size ≤ (w7.alloc (.cells #[.int .i64 x] 3)).heap.size from Nat.le_trans H7.out.2.1 hb8)
  have HG8 := Lib.hid (H7.out.1.alloc (.cells #[.int .i64 x] 3))
  have HW5 := Lib.hid HB3.out.size
  clear hb8
  by_cases hx1 : x < 1
  · go_wp2_with fail
    refine (add_low HG8.out (by decide) (fun i hi => absurd hi (Nat.not_lt_zero _)) HZ.out x HX.out _ 1 1 _ HN.out hx1).mono ?_
    rintro e w8 ⟨rfl, rfl⟩
    go_wp2_with fail
    refine (add_low HG8.out (by decide) (fun i hi => absurd hi (Nat.not_lt_zero _)) HZ.out x HX.out _ 0 0 _ (numsOut_nil _ _ _) hx1).mono ?_
    rintro e w8 ⟨rfl, rfl⟩
    go_wp2_with fail
    refine (add_low HG8.out (by decide) (fun i hi => absurd hi (Nat.not_lt_zero _)) HZ.out x HX.out _ 0 0 _ (numsOut_nil _ _ _) hx1).mono ?_
    rintro e w8 ⟨rfl, rfl⟩
    go_wp2_with fail
    refine (fin_zero HG8.out x HX.out b).mono ?_
    rintro e w9 ⟨rfl, B9⟩
    have H9 := Lib.hid (show _ ∧ _ from ⟨HG8.out.pass B9, HB8.out.trans (B9.mono HB8.out.size)⟩)
    clear B9
    go_wp2_with fail
    refine (fin_zero H9.out.1 x HX.out b).mono ?_
    rintro e w10 ⟨rfl, B10⟩
    have H10 := Lib.hid (H9.out.2.trans (B10.mono H9.out.2.size))
    clear B10
    go_wp2_with fail
    go_ret
    exact ⟨rfl, H10.out⟩
  · have hx2 : 1 ≤ x := by omega
    go_wp2_with fail
    refine (add_self HG8.out HZ.out x HX.out _ 1 HN.out hx2).mono ?_
    rintro e w8 ⟨rfl, rfl⟩
    go_wp2_with fail
    refine (add_one HG8.out HZ.out x HX.out hx2).mono ?_
    rintro e w8 ⟨d8, s8, rfl, G8, O8, e8, B8⟩
    rw [← e8]
    have H8 := Lib.hid (show _ ∧ _ ∧ _ ∧ _ from ⟨G8, O8, HB8.out.trans (B8.mono HW5.out), Nat.le_trans HZ.out B8.size⟩)
    have HE := Lib.hid e8
    clear G8 O8 e8 B8
    go_wp2_with fail
    refine (add_two H8.out.1 x H8.out.2.1 H8.out.2.2.2 HX.out hx2).mono ?_
    rintro e w9 ⟨rfl, rfl⟩
    go_wp2_with fail
    refine (fin_one H8.out.1 x H8.out.2.1 H8.out.2.2.2 HX.out b).mono ?_
    rintro e w10 ⟨R, D, s10, rfl, G10, O10, B10⟩
    have H10 := Lib.hid (show _ ∧ _ ∧ _ from ⟨G10, O10, H8.out.2.2.1.trans (B10.mono HW5.out)⟩)
    clear G10 O10 B10
    go_wp2_with fail
    refine (fin_two H10.out.1 x H10.out.2.1 HX.out b).mono ?_
    rintro e w11 ⟨rfl, B11⟩
    have H11 := Lib.hid (H10.out.2.2.trans (B11.mono H10.out.2.2.size))
    clear B11
    go_wp2_with fail
    go_ret
    exact ⟨rfl, H11.out⟩
end Go.Proofs.Ytecimlbdcldkdaa
