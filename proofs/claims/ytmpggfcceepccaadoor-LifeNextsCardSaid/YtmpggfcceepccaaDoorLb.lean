/- The walk of LifeHolds. -/
import Derived.Test.YtmpggfcceepccaaDoorLa
namespace Go.Proofs.YtmpggfcceepccaaDoor
open Go.RowKit

theorem bits_lt (t : Int) : bits BinOp.and IntKind.i64 t 15 ≤ 9223372036854775807 := by
  show IntKind.i64.wrap ((BitVec.ofInt 64 t &&& BitVec.ofInt 64 15).toNat : Int) ≤ _
  generalize ((BitVec.ofInt 64 t &&& BitVec.ofInt 64 15).toNat : Int) = m
  show (if (true && decide (m % 18446744073709551616 ≥ 9223372036854775808)) = true then m % 18446744073709551616 - 18446744073709551616 else m % 18446744073709551616) ≤ 9223372036854775807
  simp only [Bool.true_and, decide_eq_true_eq]
  split <;> omega
theorem next_eq {s a l : Int} {x y : Bool} (hR : Lif.right ⟨s, a, l, x, y⟩ = true) (g : Int) : Lif.next ⟨s, a, l, x, y⟩ g = if Lif.waits s = true then (if (Lif.waiting ⟨s, a, l, x, y⟩ g).2 = true then ((Lif.waiting ⟨s, a, l, x, y⟩ g).1, 0) else (Lif.zero, 100)) else if Lif.live s = true then (if (Lif.living ⟨s, a, l, x, y⟩ g).2 = true then ((Lif.living ⟨s, a, l, x, y⟩ g).1, 0) else (Lif.zero, 100)) else (Lif.zero, 100) := by
  unfold Lif.next
  rw [if_pos hR]

set_option maxHeartbeats 2000000 in
theorem walk_LifeHolds (r t : Int) (_hr : -9223372036854775808 ≤ r ∧ r ≤ 9223372036854775807) (_ht : -9223372036854775808 ≤ t ∧ t ≤ 9223372036854775807) {w : World} (hN : Nms w) : Calls Tryd.prog 8 #[.int .i64 r, .int .i64 t] w fun e w' => e = .returned (.bool true) ∧ Below w.heap.size w w' := by
  by_cases c : r < 0 ∨ 5 < r
  · have hq := Lib.hid (show Lif.fresh r true = (⟨0, 0, 0, false, false⟩, 1) from if_pos c)
    clear c
    go_enter Tryd.func8, Tryd.ntmps8
    go_wp2_with fail
    refine (awake_any _ hN).mono ?_
    rintro e w1 ⟨rfl, hb1⟩
    go_wp2_with fail
    refine (new_any r true _ hq.out _).mono ?_
    rintro e w2 ⟨rfl, hb2⟩
    have B2 := below_pass hb1 hb1.size hb2
    go_wp2_with fail
    go_ret
    exact ⟨rfl, B2.alloc B2.size _⟩
  · have hq := Lib.hid (show Lif.fresh r true = (⟨2, 0, r, false, false⟩, 0) from if_neg c)
    have hA := Lib.hid (fresh_right (r := r) (by omega) (by omega) 2 (Or.inr rfl))
    have hP := Lib.hid (fresh_right (r := r) (by omega) (by omega) 1 (Or.inl rfl))
    have n1 := Lib.hid (show Lif.next ⟨2, 0, r, false, false⟩ 2 = (⟨1, 0, r, false, false⟩, 0) by rw [next_eq hA.out]; rfl)
    have n2 := Lib.hid (show Lif.next ⟨1, 0, r, false, false⟩ 1 = (⟨2, 0, r, false, false⟩, 0) by rw [next_eq hP.out]; rfl)
    have n3 := Lib.hid (show Lif.next ⟨2, 0, r, false, false⟩ 3 = (⟨0, 0, 0, false, false⟩, 100) by rw [next_eq hA.out]; rfl)
    have n4 := Lib.hid (show Lif.next ⟨1, 0, r, false, false⟩ 2 = (⟨0, 0, 0, false, false⟩, 100) by rw [next_eq hP.out]; rfl)
    have n5 := Lib.hid (show Lif.next ⟨2, 0, r, false, false⟩ 7 = (⟨8, 0, r, false, false⟩, 0) by rw [next_eq hA.out]; rfl)
    clear c
    go_enter Tryd.func8, Tryd.ntmps8
    go_wp2_with fail
    refine (awake_any _ hN).mono ?_
    rintro e w1 ⟨rfl, hb1⟩
    go_wp2_with fail
    refine (new_any r true _ hq.out _).mono ?_
    rintro e w2 ⟨rfl, hb2⟩
    have B2 := below_pass hb1 hb1.size hb2
    have sz2 := B2.size
    clear hb2 hb1
    have hv := bits_lt t
    go_wp2_with fail
    go_loopg [9] (bits BinOp.and IntKind.i64 t 15).toNat (fun g s9 wr => ∃ k : Nat, (k : Int) ≤ 9223372036854775807 ∧ g = (bits BinOp.and IntKind.i64 t 15 - k).toNat ∧ s9 = .int .i64 k ∧ Bk wr w2.heap.size 24 #[.int .i64 2, .int .i64 0, .int .i64 r, .bool false, .bool false] ∧ Bk wr (w2.heap.size + 1) 24 #[.int .i64 2, .int .i64 0, .int .i64 r, .bool false, .bool false] ∧ Below w.heap.size w wr)
    case atStart => exact ⟨0, by omega, by omega, rfl, (Bk.new w2 _ _).alloc _, Bk.newAt (by simp), (B2.alloc B2.size _).alloc (by simp; omega) _⟩
    case round =>
      obtain ⟨k, hk, hg, rfl, h6, h8, hB⟩ := hrel
      have c0 := (h6).cell (i := 0) rfl
      have c1 := (h6).cell (i := 1) rfl
      have c2 := (h6).cell (i := 2) rfl
      have c3 := (h6).cell (i := 3) rfl
      have c4 := (h6).cell (i := 4) rfl
      go_wp2_with fail
      · refine (next_any 2 0 r false false 2 ⟨by omega, by omega⟩ _ n1.out _).mono ?_
        rintro e w3 ⟨rfl, hb3⟩
        have h6_3 := h6.pass hb3
        have h8_3 := h8.pass hb3
        have B3 := below_pass hB hB.size hb3
        have BA3 := B3.alloc B3.size (.cells #[.int .i64 1, .int .i64 0, .int .i64 r, .bool false, .bool false] 24)
        have h6_3 := h6_3.alloc (.cells #[.int .i64 1, .int .i64 0, .int .i64 r, .bool false, .bool false] 24)
        have h8_3 := h8_3.alloc (.cells #[.int .i64 1, .int .i64 0, .int .i64 r, .bool false, .bool false] 24)
        have x_3 := Bk.new w3 24 #[.int .i64 1, .int .i64 0, .int .i64 r, .bool false, .bool false]
        have c30 := (x_3).cell (i := 0) rfl
        have c31 := (x_3).cell (i := 1) rfl
        have c32 := (x_3).cell (i := 2) rfl
        have c33 := (x_3).cell (i := 3) rfl
        have c34 := (x_3).cell (i := 4) rfl
        go_wp2_with fail
        refine (next_any 1 0 r false false 1 ⟨by omega, by omega⟩ _ n2.out _).mono ?_
        rintro e w4 ⟨rfl, hb4⟩
        have h6_4 := h6_3.pass hb4
        have h8_4 := h8_3.pass hb4
        have x_4 := x_3.pass hb4
        have B4 := below_pass BA3 BA3.size hb4
        have BA4 := B4.alloc B4.size (.cells #[.int .i64 2, .int .i64 0, .int .i64 r, .bool false, .bool false] 24)
        have h6_4 := h6_4.alloc (.cells #[.int .i64 2, .int .i64 0, .int .i64 r, .bool false, .bool false] 24)
        have h8_4 := h8_4.alloc (.cells #[.int .i64 2, .int .i64 0, .int .i64 r, .bool false, .bool false] 24)
        have x_4 := x_4.alloc (.cells #[.int .i64 2, .int .i64 0, .int .i64 r, .bool false, .bool false] 24)
        have y_4 := Bk.new w4 24 #[.int .i64 2, .int .i64 0, .int .i64 r, .bool false, .bool false]
        have c40 := (h6_4).cell (i := 0) rfl
        have c41 := (h6_4).cell (i := 1) rfl
        have c42 := (h6_4).cell (i := 2) rfl
        have c43 := (h6_4).cell (i := 3) rfl
        have c44 := (h6_4).cell (i := 4) rfl
        go_wp2_with fail
        refine (next_any 2 0 r false false 3 ⟨by omega, by omega⟩ _ n3.out _).mono ?_
        rintro e w5 ⟨rfl, hb5⟩
        have h6_5 := h6_4.pass hb5
        have h8_5 := h8_4.pass hb5
        have x_5 := x_4.pass hb5
        have y_5 := y_4.pass hb5
        have B5 := below_pass BA4 BA4.size hb5
        have BA5 := B5.alloc B5.size (.cells #[.int .i64 0, .int .i64 0, .int .i64 0, .bool false, .bool false] 24)
        have h6_5 := h6_5.alloc (.cells #[.int .i64 0, .int .i64 0, .int .i64 0, .bool false, .bool false] 24)
        have h8_5 := h8_5.alloc (.cells #[.int .i64 0, .int .i64 0, .int .i64 0, .bool false, .bool false] 24)
        have x_5 := x_5.alloc (.cells #[.int .i64 0, .int .i64 0, .int .i64 0, .bool false, .bool false] 24)
        have y_5 := y_5.alloc (.cells #[.int .i64 0, .int .i64 0, .int .i64 0, .bool false, .bool false] 24)
        have z_5 := Bk.new w5 24 #[.int .i64 0, .int .i64 0, .int .i64 0, .bool false, .bool false]
        have c50 := (x_5).cell (i := 0) rfl
        have c51 := (x_5).cell (i := 1) rfl
        have c52 := (x_5).cell (i := 2) rfl
        have c53 := (x_5).cell (i := 3) rfl
        have c54 := (x_5).cell (i := 4) rfl
        go_wp2_with fail
        refine (next_any 1 0 r false false 2 ⟨by omega, by omega⟩ _ n4.out _).mono ?_
        rintro e w6 ⟨rfl, hb6⟩
        have h6_6 := h6_5.pass hb6
        have h8_6 := h8_5.pass hb6
        have x_6 := x_5.pass hb6
        have y_6 := y_5.pass hb6
        have z_6 := z_5.pass hb6
        have B6 := below_pass BA5 BA5.size hb6
        have BA6 := B6.alloc B6.size (.cells #[.int .i64 0, .int .i64 0, .int .i64 0, .bool false, .bool false] 24)
        have h6_6 := h6_6.alloc (.cells #[.int .i64 0, .int .i64 0, .int .i64 0, .bool false, .bool false] 24)
        have h8_6 := h8_6.alloc (.cells #[.int .i64 0, .int .i64 0, .int .i64 0, .bool false, .bool false] 24)
        have x_6 := x_6.alloc (.cells #[.int .i64 0, .int .i64 0, .int .i64 0, .bool false, .bool false] 24)
        have y_6 := y_6.alloc (.cells #[.int .i64 0, .int .i64 0, .int .i64 0, .bool false, .bool false] 24)
        have z_6 := z_6.alloc (.cells #[.int .i64 0, .int .i64 0, .int .i64 0, .bool false, .bool false] 24)
        have u_6 := Bk.new w6 24 #[.int .i64 0, .int .i64 0, .int .i64 0, .bool false, .bool false]
        have cy0 := (y_6).cell (i := 0) rfl
        have cy1 := (y_6).cell (i := 1) rfl
        have cy2 := (y_6).cell (i := 2) rfl
        have cy3 := (y_6).cell (i := 3) rfl
        have cy4 := (y_6).cell (i := 4) rfl
        have c80 := (h8_6).cell (i := 0) rfl
        have c81 := (h8_6).cell (i := 1) rfl
        have c82 := (h8_6).cell (i := 2) rfl
        have c83 := (h8_6).cell (i := 3) rfl
        have c84 := (h8_6).cell (i := 4) rfl
        have c60 := h6_6.cell (i := 0) rfl
        have c61 := h6_6.cell (i := 1) rfl
        have c62 := h6_6.cell (i := 2) rfl
        have c63 := h6_6.cell (i := 3) rfl
        have c64 := h6_6.cell (i := 4) rfl
        have f0 := h6_6.free 0
        have f1 := h6_6.free 1
        have f2 := h6_6.free 2
        have f3 := h6_6.free 3
        have f4 := h6_6.free 4
        go_wp2_with fail
        go_roundg (bits BinOp.and IntKind.i64 t 15 - ((k + 1 : Nat) : Int)).toNat
        case measure => omega
        case rel => exact ⟨k + 1, by omega, rfl, by go_num, h6_6.setLife (l := ⟨2, 0, r, false, false⟩) _ _ _ _ _, ((((h8_6.far (by simp) _).far (by simp) _).far (by simp) _).far (by simp) _).far (by simp) _, set5 BA6 sz2 _ _ _ _ _⟩
      · refine (next_any 2 0 r false false 7 ⟨by omega, by omega⟩ _ n5.out _).mono ?_
        rintro e w3 ⟨rfl, hb3⟩
        have B3 := below_pass hB hB.size hb3
        go_wp2_with fail
        go_ret
        exact ⟨rfl, B3.alloc B3.size _⟩
end Go.Proofs.YtmpggfcceepccaaDoor
