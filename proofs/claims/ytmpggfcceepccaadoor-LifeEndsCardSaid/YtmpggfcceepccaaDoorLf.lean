/- The walk of LifeEnds. -/
import Derived.Test.YtmpggfcceepccaaDoorLe
namespace Go.Proofs.YtmpggfcceepccaaDoor
open Go.RowKit

theorem setN5 {w : World} {p : Addr} {v : Value} {g : Nat} {v0 v1 v2 v3 v4 : Value} (h : w.cell? p = some v) (hg : p.block ≠ g) :
    (((((w.setCell ⟨g, 0, none⟩ v0).setCell ⟨g, 1, none⟩ v1).setCell ⟨g, 2, none⟩ v2).setCell ⟨g, 3, none⟩ v3).setCell ⟨g, 4, none⟩ v4).cell? p = some v :=
  keep_set (keep_set (keep_set (keep_set (keep_set h (Ne.symm hg)) (Ne.symm hg)) (Ne.symm hg)) (Ne.symm hg)) (Ne.symm hg)
theorem end_start {r : Int} (h : 0 ≤ r ∧ r ≤ 5) : Lif.next ⟨1, 0, r, false, false⟩ 3 = (⟨3, 1, r, false, false⟩, 0) := by
  have hr : Lif.right ⟨1, 0, r, false, false⟩ = true := Lif.right_iff.2 (by unfold Lif.Rt Lif.most; simp; omega)
  unfold Lif.next
  rw [if_pos hr]
  rfl

set_option maxRecDepth 100000 in
set_option maxHeartbeats 4000000 in
theorem walk_LifeEnds (r : Int) (A : Option Addr) (n c : Nat) (_hr : -9223372036854775808 ≤ r ∧ r ≤ 9223372036854775807) {w : World} (hrow : SignsIn w A n) (hN : Nms w) :
    Calls Tryd.prog 7 #[.int .i64 r, .slice A n c] w fun e w' => e = .returned (.bool true) ∧ Below w.heap.size w w' := by
  obtain ⟨hn, hrow⟩ := hrow
  by_cases hok : 0 ≤ r ∧ r ≤ 5
  · have HE := Lib.hid (fresh_ok hok false)
    have HS := Lib.hid (end_start hok)
    have HST := Lib.hid (fun st wl gn g (hg : g ≠ 8) => Lif.end_step hok st wl gn (g := g) hg)
    have HOV := Lib.hid (fun st wl gn => Lif.end_over hok st wl gn)
    have hr0 := hok.1
    have hr5 := hok.2
    clear hok
    have HROW := Lib.hid hrow
    clear hrow
    go_enter Tryd.func7, Tryd.ntmps7
    go_wp2_with fail
    refine (awake_any _ hN).mono ?_
    rintro e w1 ⟨rfl, hb1⟩
    go_wp2_with fail
    refine (new_any r false _ HE.out _).mono ?_
    rintro e w2 ⟨rfl, hb2⟩
    have B2 := below_pass hb1 hb1.size hb2
    have sz2 := B2.size
    clear hb2 hb1
    go_wp2_with fail
    refine (next_any 1 0 r false false 3 ⟨by omega, by omega⟩ _ HS.out _).mono ?_
    rintro e w3 ⟨rfl, hb3⟩
    have K3 := (Bk.new w2 24 (lifeCells ⟨1, 0, r, false, false⟩)).pass hb3
    have B3 := below_pass (B2.alloc B2.size _) (Nat.le_trans B2.size (by simp)) hb3
    have f0 := K3.free 0
    have f1 := K3.free 1
    have f2 := K3.free 2
    have f3 := K3.free 3
    have f4 := K3.free 4
    have c0 := K3.cell (i := 0) rfl
    have c1 := K3.cell (i := 1) rfl
    have c2 := K3.cell (i := 2) rfl
    have c3 := K3.cell (i := 3) rfl
    have c4 := K3.cell (i := 4) rfl
    go_wp2_with fail
    refine (live_any 3 true rfl _).mono ?_
    rintro e w4 ⟨rfl, rfl⟩
    go_wp2_with fail
    go_loopg [8, 9, 10, 11] 100 (fun g s8 s9 s10 s11 wr => ∃ k : Nat, k ≤ 100 ∧ g = 100 - k ∧ s11 = .int .i64 k ∧ (∃ st wl gn, s8 = .bool st ∧ s9 = .bool wl ∧ s10 = .bool gn ∧ Bk wr w2.heap.size 24 (lifeCells (Lif.E r st wl gn))) ∧ Below w.heap.size w wr)
    case atStart => exact ⟨0, by omega, by omega, rfl, ⟨false, false, false, rfl, rfl, rfl, K3.setLife (l := ⟨1, 0, r, false, false⟩) _ _ _ _ _⟩, set5 B3 sz2 _ _ _ _ _⟩
    case round =>
      obtain ⟨k, hk, hg, rfl, ⟨st, wl, gn, rfl, rfl, rfl, hK⟩, hB⟩ := hrel
      by_cases hlt : k < n ∧ k < 100
      · obtain ⟨hlt, h100⟩ := hlt
        obtain ⟨bl, off, rfl, a, ha⟩ := HROW.out (by omega)
        have cs : wr.cell? ⟨bl, off + k, none⟩ = some (.int .i64 (a k)) := keep_below (ha k hlt) hB
        have hbl : bl < wr.heap.size := World.block_lt_of_cell? wr _ cs
        generalize a k = s0 at *
        clear ha
        have hlt' : (k : Int) < n := by omega
        have hk0 : (0 : Int) ≤ k := by omega
        have h100' : (k : Int) < 100 := by omega
        by_cases h8 : s0 = 8
        · subst h8
          go_wp2_with fail
          go_roundg (100 - (k + 1))
          case measure => omega
          case rel => exact ⟨k + 1, by omega, rfl, by go_num, ⟨st, wl, gn, rfl, rfl, rfl, hK⟩, hB⟩
        · have hst := Lib.hid (HST.out st wl gn s0 h8)
          obtain ⟨q, hq⟩ : ∃ q, Hid (Lif.next (Lif.E r st wl gn) s0 = q) := ⟨_, Lib.hid rfl⟩
          have hst2 := hst.out
          rw [hq.out] at hst2
          have HST2 := Lib.hid hst2
          clear hst2 hst
          obtain ⟨es, he⟩ : ∃ es, Hid ((if st = true ∨ wl = true ∨ gn = true then (4 : Int) else 3) = es) := ⟨_, Lib.hid rfl⟩
          have hE : Lif.E r st wl gn = ⟨es, 1, r, wl, st⟩ := by unfold Lif.E; rw [he.out]
          rw [hE] at hK hq
          have HEE := Lib.hid hE
          clear hE
          obtain ⟨⟨xs, xa, xf, xw, xp⟩, qe⟩ := q
          have d8 : (s0 == 8) = false := by simp [h8]
          have c0 : wr.cell? ⟨w2.heap.size, 0, none⟩ = some (.int .i64 es) := hK.cell (i := 0) rfl
          have c1 : wr.cell? ⟨w2.heap.size, 1, none⟩ = some (.int .i64 1) := hK.cell (i := 1) rfl
          have c2 : wr.cell? ⟨w2.heap.size, 2, none⟩ = some (.int .i64 r) := hK.cell (i := 2) rfl
          have c3 : wr.cell? ⟨w2.heap.size, 3, none⟩ = some (.bool wl) := hK.cell (i := 3) rfl
          have c4 : wr.cell? ⟨w2.heap.size, 4, none⟩ = some (.bool st) := hK.cell (i := 4) rfl
          have csA : ∀ o, (wr.alloc o).cell? ⟨bl, off + k, none⟩ = some (.int .i64 s0) := fun o => keep_alloc cs
          have cA0 : ∀ o, (wr.alloc o).cell? ⟨w2.heap.size, 0, none⟩ = some (.int .i64 es) := fun o => keep_alloc c0
          have cA1 : ∀ o, (wr.alloc o).cell? ⟨w2.heap.size, 1, none⟩ = some (.int .i64 1) := fun o => keep_alloc c1
          have cA2 : ∀ o, (wr.alloc o).cell? ⟨w2.heap.size, 2, none⟩ = some (.int .i64 r) := fun o => keep_alloc c2
          have cA3 : ∀ o, (wr.alloc o).cell? ⟨w2.heap.size, 3, none⟩ = some (.bool wl) := fun o => keep_alloc c3
          have cA4 : ∀ o, (wr.alloc o).cell? ⟨w2.heap.size, 4, none⟩ = some (.bool st) := fun o => keep_alloc c4
          have hat : (-9223372036854775808 : Int) ≤ 1 ∧ (1 : Int) ≤ 9223372036854775807 := ⟨by omega, by omega⟩
          go_upto_region 17 with fail
          go_cut [12, 13] (fun s12 s13 wx => ∃ gx, s12 = .pointer (some ⟨gx, 0, none⟩) ∧ w2.heap.size < gx ∧ s13 = .int .i64 qe ∧ Bk wx gx 24 (lifeCells ⟨xs, xa, xf, xw, xp⟩) ∧ Bk wx w2.heap.size 24 (lifeCells ⟨es, 1, r, wl, st⟩) ∧ Below w.heap.size w wx ∧ wx.cell? ⟨bl, off + k, none⟩ = some (.int .i64 s0))
          case first =>
            go_region_with (go_at_call 10; refine (next_any es 1 r wl st s0 hat (⟨xs, xa, xf, xw, xp⟩, qe) hq.out _).mono ?_; rintro e w3 ⟨rfl, hb⟩; first | (have q := (Bk.new wr 24 #[.int .i64 0, .int .i64 0, .int .i64 0, .bool false, .bool false]).drew.pass hb; have e0 := q.cell (i := 0) rfl; have e1 := q.cell (i := 1) rfl; have e2 := q.cell (i := 2) rfl; have e3 := q.cell (i := 3) rfl; have e4 := q.cell (i := 4) rfl; have f0 := q.free 0; have f1 := q.free 1; have f2 := q.free 2; have f3 := q.free 3; have f4 := q.free 4) | skip)
            all_goals
              go_wp2_with fail
              go_meet
              have hlt0 := hK.lt
              have hsz := hb.size
              first
              | exact ⟨wr.heap.size, rfl, hK.lt, rfl, q.setLife (l := Lif.zero) _ _ _ _ _, (((((((hK.alloc _).drew.pass hb).far (by simp; omega) _).far (by simp; omega) _).far (by simp; omega) _).far (by simp; omega) _).far (by simp; omega) _), set5 (below_pass (hB.alloc hB.size _).drew (Nat.le_trans hB.size (by simp)) hb) hB.size _ _ _ _ _, setN5 (keep_below (keep_drew (keep_alloc cs)) hb) (Nat.ne_of_lt hbl)⟩
              | exact ⟨w3.heap.size, rfl, Nat.lt_of_lt_of_le hlt0 hsz, rfl, Bk.new w3 _ _, (hK.drew.pass hb).alloc _, (below_pass hB.drew hB.size hb).alloc (Nat.le_trans hB.size hsz) _, keep_alloc (keep_below (keep_drew cs) hb)⟩
          case rest =>
            obtain ⟨gx, rfl, hgx, rfl, hX, hK2, hB2, cs2⟩ := hcut
            clear c0 c1 c2 c3 c4 cA0 cA1 cA2 cA3 cA4 cs csA
            have hst := HST2.out
            have x0 : wc.cell? ⟨gx, 0, none⟩ = some (.int .i64 xs) := hX.cell (i := 0) rfl
            have x1 : wc.cell? ⟨gx, 1, none⟩ = some (.int .i64 xa) := hX.cell (i := 1) rfl
            have x2 : wc.cell? ⟨gx, 2, none⟩ = some (.int .i64 xf) := hX.cell (i := 2) rfl
            have x3 : wc.cell? ⟨gx, 3, none⟩ = some (.bool xw) := hX.cell (i := 3) rfl
            have x4 : wc.cell? ⟨gx, 4, none⟩ = some (.bool xp) := hX.cell (i := 4) rfl
            have f0 := hK2.free 0
            have f1 := hK2.free 1
            have f2 := hK2.free 2
            have f3 := hK2.free 3
            have f4 := hK2.free 4
            have l0 : wc.cell? ⟨w2.heap.size, 0, none⟩ = some (.int .i64 es) := hK2.cell (i := 0) rfl
            have l1 : wc.cell? ⟨w2.heap.size, 1, none⟩ = some (.int .i64 1) := hK2.cell (i := 1) rfl
            have l2 : wc.cell? ⟨w2.heap.size, 2, none⟩ = some (.int .i64 r) := hK2.cell (i := 2) rfl
            have l3 : wc.cell? ⟨w2.heap.size, 3, none⟩ = some (.bool wl) := hK2.cell (i := 3) rfl
            have l4 : wc.cell? ⟨w2.heap.size, 4, none⟩ = some (.bool st) := hK2.cell (i := 4) rfl
            have hLx : ∀ a b c, (⟨xs, xa, xf, xw, xp⟩ : Lif.Life) = Lif.E r a b c → Lif.live xs = true := fun a b c h => by have h2 := Lif.end_live r a b c; rw [← h] at h2; exact h2
            have HLX := Lib.hid hLx
            clear hLx
            by_cases g4 : s0 = 4
            · subst g4
              rw [if_pos rfl] at hst
              simp only [Prod.mk.injEq] at hst
              obtain ⟨hx, rfl⟩ := hst
              have hl := HLX.out _ _ _ hx
              have HX := Lib.hid hx
              clear hx
              cases st <;> cases wl <;> cases gn
              all_goals
                go_wp2_with fail
                refine (live_any xs true hl _).mono ?_
                rintro e w4 ⟨rfl, rfl⟩
                go_wp2_with fail
                go_roundg (100 - (k + 1))
                case measure => omega
                case rel => exact ⟨k + 1, by omega, rfl, by go_num, ⟨_, _, _, rfl, rfl, rfl, by first | (rw [← HX.out]; exact hK2.setLife _ _ _ _ _)⟩, set5 hB2 sz2 _ _ _ _ _⟩
            · rw [if_neg g4] at hst
              by_cases g5 : s0 = 5
              · subst g5
                rw [if_pos rfl] at hst
                simp only [Prod.mk.injEq] at hst
                obtain ⟨hx, rfl⟩ := hst
                have hl := HLX.out _ _ _ hx
                have HX := Lib.hid hx
                clear hx
                cases st <;> cases wl <;> cases gn
                all_goals
                  go_wp2_with fail
                  refine (live_any xs true hl _).mono ?_
                  rintro e w4 ⟨rfl, rfl⟩
                  go_wp2_with fail
                  go_roundg (100 - (k + 1))
                  case measure => omega
                  case rel => exact ⟨k + 1, by omega, rfl, by go_num, ⟨_, _, _, rfl, rfl, rfl, by first | (rw [← HX.out]; exact hK2.setLife _ _ _ _ _)⟩, set5 hB2 sz2 _ _ _ _ _⟩
              · rw [if_neg g5] at hst
                by_cases g6 : s0 = 6 ∧ st = false
                · obtain ⟨rfl, rfl⟩ := g6
                  rw [if_pos ⟨rfl, rfl⟩] at hst
                  simp only [Prod.mk.injEq] at hst
                  obtain ⟨hx, rfl⟩ := hst
                  have hl := HLX.out _ _ _ hx
                  have HX := Lib.hid hx
                  clear hx
                  cases wl <;> cases gn
                  all_goals
                    go_wp2_with fail
                    refine (live_any xs true hl _).mono ?_
                    rintro e w4 ⟨rfl, rfl⟩
                    go_wp2_with fail
                    go_roundg (100 - (k + 1))
                    case measure => omega
                    case rel => exact ⟨k + 1, by omega, rfl, by go_num, ⟨_, _, _, rfl, rfl, rfl, by first | (rw [← HX.out]; exact hK2.setLife _ _ _ _ _)⟩, set5 hB2 sz2 _ _ _ _ _⟩
                · rw [if_neg g6] at hst
                  simp only [Prod.mk.injEq] at hst
                  obtain ⟨hx, rfl⟩ := hst
                  clear HLX
                  go_wp2_with fail
                  go_roundg (100 - (k + 1))
                  case measure => omega
                  case rel => exact ⟨k + 1, by omega, rfl, by go_num, ⟨st, wl, gn, rfl, rfl, rfl, by rw [HEE.out]; exact hK2⟩, hB2⟩
      · obtain ⟨kk, hov⟩ := HOV.out st wl gn
        obtain ⟨v, hv⟩ : ∃ v, Lif.want r st wl gn = v := ⟨_, rfl⟩
        obtain ⟨es, he⟩ : ∃ es, Hid ((if st = true ∨ wl = true ∨ gn = true then (4 : Int) else 3) = es) := ⟨_, Lib.hid rfl⟩
        have hE : Lif.E r st wl gn = ⟨es, 1, r, wl, st⟩ := by unfold Lif.E; rw [he.out]
        rw [hv] at hov
        rw [hE] at hK hov
        have HOV2 := Lib.hid hov
        have HV := Lib.hid hv
        clear hE hov hv
        have c0 : wr.cell? ⟨w2.heap.size, 0, none⟩ = some (.int .i64 es) := hK.cell (i := 0) rfl
        have c1 : wr.cell? ⟨w2.heap.size, 1, none⟩ = some (.int .i64 1) := hK.cell (i := 1) rfl
        have c2 : wr.cell? ⟨w2.heap.size, 2, none⟩ = some (.int .i64 r) := hK.cell (i := 2) rfl
        have c3 : wr.cell? ⟨w2.heap.size, 3, none⟩ = some (.bool wl) := hK.cell (i := 3) rfl
        have c4 : wr.cell? ⟨w2.heap.size, 4, none⟩ = some (.bool st) := hK.cell (i := 4) rfl
        go_wp2_with fail
        all_goals
          refine (next_any es 1 r wl st 8 ⟨by omega, by omega⟩ _ HOV2.out _).mono ?_
          rintro e w3 ⟨rfl, hb⟩
          have B3 := below_pass hB hB.size hb
          have hv := HV.out
          unfold Lif.want at hv
          clear HV HOV2
          cases st <;> cases wl <;> cases gn <;> simp at hv
          all_goals first | (split at hv) | skip
          all_goals
            subst hv
            go_wp2_with fail
            go_ret
            exact ⟨rfl, B3.alloc B3.size _⟩
  · have HE := Lib.hid (fresh_err (r := r) (by omega) false)
    go_enter Tryd.func7, Tryd.ntmps7
    go_wp2_with fail
    refine (awake_any _ hN).mono ?_
    rintro e w1 ⟨rfl, hb1⟩
    go_wp2_with fail
    refine (new_any r false _ HE.out _).mono ?_
    rintro e w2 ⟨rfl, hb2⟩
    have B2 := below_pass hb1 hb1.size hb2
    go_wp2_with fail
    go_ret
    exact ⟨rfl, B2.alloc B2.size _⟩
end Go.Proofs.YtmpggfcceepccaaDoor
