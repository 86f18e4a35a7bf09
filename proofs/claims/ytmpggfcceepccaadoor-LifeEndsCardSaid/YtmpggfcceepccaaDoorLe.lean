/- The walk of LifeStays. -/
import Derived.Test.YtmpggfcceepccaaDoorLa
import Derived.Test.YtmpggfcceepccaaDoorLifP
import Derived.Test.YtmpggfcceepccaaDoorRowB
namespace Go.Proofs.YtmpggfcceepccaaDoor
open Go.RowKit

theorem fresh_err {r : Int} (h : r < 0 ∨ 5 < r) (b : Bool) : Lif.fresh r b = (Lif.zero, 1) := by unfold Lif.fresh; rw [if_pos h]
theorem fresh_ok {r : Int} (h : 0 ≤ r ∧ r ≤ 5) (b : Bool) : Lif.fresh r b = (⟨if b = true then 2 else 1, 0, r, false, false⟩, 0) := by unfold Lif.fresh; rw [if_neg (by omega)]

set_option maxRecDepth 100000 in
set_option maxHeartbeats 4000000 in
theorem walk_LifeStays (r : Int) (b : Bool) (A : Option Addr) (n c : Nat) (_hr : -9223372036854775808 ≤ r ∧ r ≤ 9223372036854775807) {w : World} (hrow : SignsIn w A n) (hN : Nms w) :
    Calls Tryd.prog 6 #[.int .i64 r, .bool b, .slice A n c] w fun e w' => e = .returned (.bool true) ∧ Below w.heap.size w w' := by
  obtain ⟨hn, hrow⟩ := hrow
  by_cases hok : 0 ≤ r ∧ r ≤ 5
  · obtain ⟨z, hz⟩ : ∃ z, Hid ((if b = true then (2 : Int) else 1) = z) := ⟨_, Lib.hid rfl⟩
    have HF := Lib.hid (Lif.from_fresh hok b)
    have HE := Lib.hid (fresh_ok hok b)
    rw [hz.out] at HF HE
    have hr0 := hok.1
    have hr5 := hok.2
    clear hok
    have HROW := Lib.hid hrow
    clear hrow
    go_enter Tryd.func6, Tryd.ntmps6
    go_wp2_with fail
    refine (awake_any _ hN).mono ?_
    rintro e w1 ⟨rfl, hb1⟩
    go_wp2_with fail
    refine (new_any r b _ HE.out _).mono ?_
    rintro e w2 ⟨rfl, hb2⟩
    have B2 := below_pass hb1 hb1.size hb2
    have sz2 := B2.size
    clear hb2 hb1
    go_wp2_with fail
    go_loopg [10] 200 (fun g s10 wr => ∃ k : Nat, k ≤ 200 ∧ g = 200 - k ∧ s10 = .int .i64 k ∧ (∃ l : Lif.Life, Lif.From r l ∧ Bk wr w2.heap.size 24 (lifeCells l)) ∧ Below w.heap.size w wr)
    case atStart => exact ⟨0, by omega, by omega, rfl, ⟨_, HF.out, Bk.new w2 _ _⟩, B2.alloc B2.size _⟩
    case round =>
      obtain ⟨k, hk, hg, rfl, ⟨l, hl, hK⟩, hB⟩ := hrel
      by_cases hlt : k < n ∧ k < 200
      · obtain ⟨hlt, h200⟩ := hlt
        obtain ⟨bl, off, rfl, a, ha⟩ := HROW.out (by omega)
        have cs : wr.cell? ⟨bl, off + k, none⟩ = some (.int .i64 (a k)) := keep_below (ha k hlt) hB
        generalize a k = s0 at *
        clear ha
        have hstep := Lib.hid (Lif.step_next hl s0)
        obtain ⟨q, hq⟩ : ∃ q, Hid (Lif.next l s0 = q) := ⟨_, Lib.hid rfl⟩
        rw [hq.out] at hstep
        have HL := Lib.hid hl
        have hat : -9223372036854775808 ≤ l.at_ ∧ l.at_ ≤ 9223372036854775807 := by
          have h := hl.1
          have hm : Lif.most l.st ≤ 6 := by unfold Lif.most; split <;> omega
          unfold Lif.Rt at h
          omega
        clear hl
        obtain ⟨ls, la, lf, lx, ly⟩ := l
        obtain ⟨⟨xs, xa, xf, xw, xp⟩, qe⟩ := q
        have c0 : wr.cell? ⟨w2.heap.size, 0, none⟩ = some (.int .i64 ls) := hK.cell (i := 0) rfl
        have c1 : wr.cell? ⟨w2.heap.size, 1, none⟩ = some (.int .i64 la) := hK.cell (i := 1) rfl
        have c2 : wr.cell? ⟨w2.heap.size, 2, none⟩ = some (.int .i64 lf) := hK.cell (i := 2) rfl
        have c3 : wr.cell? ⟨w2.heap.size, 3, none⟩ = some (.bool lx) := hK.cell (i := 3) rfl
        have c4 : wr.cell? ⟨w2.heap.size, 4, none⟩ = some (.bool ly) := hK.cell (i := 4) rfl
        simp only at hat
        have csA : ∀ o, (wr.alloc o).cell? ⟨bl, off + k, none⟩ = some (.int .i64 s0) := fun o => keep_alloc cs
        have cA0 : ∀ o, (wr.alloc o).cell? ⟨w2.heap.size, 0, none⟩ = some (.int .i64 ls) := fun o => keep_alloc c0
        have cA1 : ∀ o, (wr.alloc o).cell? ⟨w2.heap.size, 1, none⟩ = some (.int .i64 la) := fun o => keep_alloc c1
        have cA2 : ∀ o, (wr.alloc o).cell? ⟨w2.heap.size, 2, none⟩ = some (.int .i64 lf) := fun o => keep_alloc c2
        have cA3 : ∀ o, (wr.alloc o).cell? ⟨w2.heap.size, 3, none⟩ = some (.bool lx) := fun o => keep_alloc c3
        have cA4 : ∀ o, (wr.alloc o).cell? ⟨w2.heap.size, 4, none⟩ = some (.bool ly) := fun o => keep_alloc c4
        have hlt' : (k : Int) < n := by omega
        have hk0 : (0 : Int) ≤ k := by omega
        have h200' : (k : Int) < 200 := by omega
        go_upto_region 10 with fail
        go_cut [11, 12] (fun s11 s12 wx => ∃ gx, s11 = .pointer (some ⟨gx, 0, none⟩) ∧ w2.heap.size < gx ∧ s12 = .int .i64 qe ∧ Bk wx gx 24 (lifeCells ⟨xs, xa, xf, xw, xp⟩) ∧ Bk wx w2.heap.size 24 (lifeCells ⟨ls, la, lf, lx, ly⟩) ∧ Below w.heap.size w wx)
        case first =>
          go_region_with (go_at_call 10; refine (next_any ls la lf lx ly s0 hat (⟨xs, xa, xf, xw, xp⟩, qe) hq.out _).mono ?_; rintro e w3 ⟨rfl, hb⟩; first | (have q := (Bk.new wr 24 #[.int .i64 0, .int .i64 0, .int .i64 0, .bool false, .bool false]).drew.pass hb; have e0 := q.cell (i := 0) rfl; have e1 := q.cell (i := 1) rfl; have e2 := q.cell (i := 2) rfl; have e3 := q.cell (i := 3) rfl; have e4 := q.cell (i := 4) rfl; have f0 := q.free 0; have f1 := q.free 1; have f2 := q.free 2; have f3 := q.free 3; have f4 := q.free 4) | skip)
          all_goals
            go_wp2_with fail
            go_meet
            have hlt0 := hK.lt
            have hsz := hb.size
            first
            | exact ⟨wr.heap.size, rfl, hK.lt, rfl, q.setLife (l := Lif.zero) _ _ _ _ _, (((((((hK.alloc _).drew.pass hb).far (by simp; omega) _).far (by simp; omega) _).far (by simp; omega) _).far (by simp; omega) _).far (by simp; omega) _), set5 (below_pass (hB.alloc hB.size _).drew (Nat.le_trans hB.size (by simp)) hb) hB.size _ _ _ _ _⟩
            | exact ⟨w3.heap.size, rfl, Nat.lt_of_lt_of_le hlt0 hsz, rfl, Bk.new w3 _ _, (hK.drew.pass hb).alloc _, (below_pass hB.drew hB.size hb).alloc (Nat.le_trans hB.size hsz) _⟩
        case rest =>
          obtain ⟨gx, rfl, hgx, rfl, hX, hK2, hB2⟩ := hcut
          clear c0 c1 c2 c3 c4 cA0 cA1 cA2 cA3 cA4 cs csA
          have x0 : wc.cell? ⟨gx, 0, none⟩ = some (.int .i64 xs) := hX.cell (i := 0) rfl
          have x1 : wc.cell? ⟨gx, 1, none⟩ = some (.int .i64 xa) := hX.cell (i := 1) rfl
          have x2 : wc.cell? ⟨gx, 2, none⟩ = some (.int .i64 xf) := hX.cell (i := 2) rfl
          have x3 : wc.cell? ⟨gx, 3, none⟩ = some (.bool xw) := hX.cell (i := 3) rfl
          have x4 : wc.cell? ⟨gx, 4, none⟩ = some (.bool xp) := hX.cell (i := 4) rfl
          rcases hstep.out with h | ⟨x, h, ho, hR, hF, h1, h2, h3, h4⟩
          · simp only [Lif.zero, Prod.mk.injEq, Lif.Life.mk.injEq] at h
            obtain ⟨⟨rfl, rfl, rfl, rfl, rfl⟩, rfl⟩ := h
            go_wp2_with fail
            go_roundg (200 - (k + 1))
            case measure => omega
            case rel => exact ⟨k + 1, by omega, rfl, by go_num, ⟨_, HL.out, hK2⟩, hB2⟩
          · simp only [Prod.mk.injEq] at h
            obtain ⟨rfl, rfl⟩ := h
            simp only at ho h1 h2 h3 h4
            have HF2 := Lib.hid hF
            have ha2 : -9223372036854775808 ≤ xa ∧ xa ≤ 9223372036854775807 := by omega
            have hxf : 0 ≤ xf ∧ xf ≤ 6 := by
              have h := hF.1
              have hm : Lif.most xs ≤ 6 := by unfold Lif.most; split <;> omega
              unfold Lif.Rt at h
              simp only at h
              omega
            clear hF
            have l0 : wc.cell? ⟨w2.heap.size, 0, none⟩ = some (.int .i64 ls) := hK2.cell (i := 0) rfl
            go_wp2_with fail
            refine (over_any ls false ho _).mono ?_
            rintro e w4 ⟨rfl, rfl⟩
            go_wp2_with fail
            refine (calls_bool (right_any xs xa xf xw xp ha2) hR _).mono ?_
            rintro e w5 ⟨rfl, hb5⟩
            have X5 := hX.pass hb5
            have K5 := hK2.pass hb5
            have B5 := below_pass hB2 hB2.size hb5
            clear x0 x1 x2 x3 x4 l0
            have x0 : w5.cell? ⟨gx, 0, none⟩ = some (.int .i64 xs) := X5.cell (i := 0) rfl
            have x1 : w5.cell? ⟨gx, 1, none⟩ = some (.int .i64 xa) := X5.cell (i := 1) rfl
            have x2 : w5.cell? ⟨gx, 2, none⟩ = some (.int .i64 xf) := X5.cell (i := 2) rfl
            have x3 : w5.cell? ⟨gx, 3, none⟩ = some (.bool xw) := X5.cell (i := 3) rfl
            have x4 : w5.cell? ⟨gx, 4, none⟩ = some (.bool xp) := X5.cell (i := 4) rfl
            have l0 : w5.cell? ⟨w2.heap.size, 0, none⟩ = some (.int .i64 ls) := K5.cell (i := 0) rfl
            have l1 : w5.cell? ⟨w2.heap.size, 1, none⟩ = some (.int .i64 la) := K5.cell (i := 1) rfl
            have l2 : w5.cell? ⟨w2.heap.size, 2, none⟩ = some (.int .i64 lf) := K5.cell (i := 2) rfl
            have l3 : w5.cell? ⟨w2.heap.size, 3, none⟩ = some (.bool lx) := K5.cell (i := 3) rfl
            have l4 : w5.cell? ⟨w2.heap.size, 4, none⟩ = some (.bool ly) := K5.cell (i := 4) rfl
            have f0 := K5.free 0
            have f1 := K5.free 1
            have f2 := K5.free 2
            have f3 := K5.free 3
            have f4 := K5.free 4
            go_wp2_with fail
            go_roundg (200 - (k + 1))
            case measure => omega
            case rel => exact ⟨k + 1, by omega, rfl, by go_num, ⟨_, HF2.out, K5.setLife _ _ _ _ _⟩, set5 B5 sz2 _ _ _ _ _⟩
      · go_wp2_with fail
        all_goals
          go_ret
          exact ⟨rfl, hB⟩
  · have HE := Lib.hid (fresh_err (r := r) (by omega) b)
    go_enter Tryd.func6, Tryd.ntmps6
    go_wp2_with fail
    refine (awake_any _ hN).mono ?_
    rintro e w1 ⟨rfl, hb1⟩
    go_wp2_with fail
    refine (new_any r b _ HE.out _).mono ?_
    rintro e w2 ⟨rfl, hb2⟩
    have B2 := below_pass hb1 hb1.size hb2
    go_wp2_with fail
    all_goals
      go_ret
      refine ⟨?_, B2.alloc B2.size _⟩
      first
      | rfl
      | exact ret_bool (by simp; omega)
end Go.Proofs.YtmpggfcceepccaaDoor
