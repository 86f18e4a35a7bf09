/- The walk of the law ShareLeast: the least of a row is below none, and the first of its like. -/
import Derived.Test.YtnjgkgnjbmfpfaaWg
import Derived.Test.YtnjgkgnjbmfpfaaRowB
namespace Go.Proofs.Ytnjgkgnjbmfpfaa
open Go.RowKit Go.Shelf

set_option maxHeartbeats 1000000 in
theorem least_none (A : Option Addr) (c : Nat) (w : World) :
    Calls Try.prog 21 #[.slice A 0 c] w fun e w' => e = .returned (.int .i64 (-1)) ∧ w = w' := by
  go_enter Try.func21, Try.ntmps21
  go_wp2_with fail
  refine wp_loop_rounds 1 ?_
  rw [rounds_succ]
  go_wp2_with fail
  go_ret
  exact ⟨rfl, rfl⟩

set_option maxRecDepth 100000 in
set_option maxHeartbeats 2000000 in
theorem walk_ShareLeast (A : Option Addr) (n c : Nat) {w : World} (hrow : SharesIn w A n) :
    Calls Try.prog 5 #[.slice A n c] w fun e w' => e = .returned (.bool true) ∧ Below w.heap.size w w' := by
  obtain ⟨hn, hrow⟩ := hrow
  rcases Nat.eq_zero_or_pos n with rfl | hpos
  · clear hrow
    go_enter Try.func5, Try.ntmps5
    go_wp2_with fail
    refine (awake_any _).mono ?_
    rintro e w1 ⟨rfl, hb1⟩
    go_wp2_with fail
    refine (least_none _ _ _).mono ?_
    rintro e w2 ⟨rfl, rfl⟩
    go_wp2_with fail
    go_ret
    exact ⟨rfl, hb1⟩
  · obtain ⟨bl, off, rfl, a, b, hc, hab⟩ := hrow hpos
    clear hrow
    have hr := (Shr.leastN_range a b n).2 hpos
    have HL := Lib.hid (Shr.leastN_least a b n hpos)
    obtain ⟨j, hj⟩ : ∃ j : Nat, Shr.leastN a b n = (j : Int) := ⟨_, (Int.toNat_of_nonneg hr.1).symm⟩
    have C := Lib.hid (fun (W : World) h => least_any bl off n c a b W hn h hab)
    rw [hj] at HL C hr
    simp only [Int.toNat_natCast] at HL
    clear hj
    have HR := Lib.hid hc
    have HA := Lib.hid hab
    clear hc hab
    have hne : ((n : Int) == 0) = false := by simp; omega
    have hd1 : decide ((j : Int) < 0) = false := by simp
    have hd2 : decide (n ≤ j) = false := by simp; omega
    go_enter Try.func5, Try.ntmps5
    go_wp2_with fail
    refine (awake_any _).mono ?_
    rintro e w1 ⟨rfl, hb1⟩
    go_wp2_with fail
    refine (C.out _ (fun i hi => ⟨keep_below (HR.out i hi).1 hb1, keep_below (HR.out i hi).2 hb1⟩)).mono ?_
    rintro e w2 ⟨rfl, hb2⟩
    have hB := below_pass hb1 hb1.size hb2
    clear hb1 hb2 C
    go_wp2_with fail
    go_loopg [5] n (fun g s5 wr => ∃ k : Nat, k ≤ n ∧ g = n - k ∧ s5 = .int .i64 k ∧ Below w.heap.size w wr)
    case atStart => exact ⟨0, by omega, by omega, rfl, hB⟩
    case round =>
      obtain ⟨k, hk, hg, rfl, hB⟩ := hrel
      by_cases hlt : k < n ∧ k < 1000
      · obtain ⟨hlt, h1000⟩ := hlt
        have hx : wr.cell? ⟨bl, off + k * 2, none⟩ = some (.int .i64 (a k)) := keep_below (HR.out k hlt).1 hB
        have hy : wr.cell? ⟨bl, off + k * 2 + 1, none⟩ = some (.int .i64 (b k)) := keep_below (HR.out k hlt).2 hB
        have hx2 : wr.cell? ⟨bl, off + j * 2, none⟩ = some (.int .i64 (a j)) := keep_below (HR.out j (by omega)).1 hB
        have hy2 : wr.cell? ⟨bl, off + j * 2 + 1, none⟩ = some (.int .i64 (b j)) := keep_below (HR.out j (by omega)).2 hB
        have hl := HL.out k hlt
        have hak := HA.out k
        have haj := HA.out j
        have C1 := Lib.hid (fun W => compare_any (a k) (b k) (a j) (b j) hak.1 hak.2 haj.1 haj.2 W)
        generalize Shr.cmp (a k) (b k) (a j) (b j) = x at *
        generalize a k = ak at *
        generalize b k = bk at *
        generalize a j = aj at *
        generalize b j = bj at *
        clear hak haj
        have hjn : (j : Int) < (n : Int) := by omega
        have hj0 : (0 : Int) ≤ (j : Int) := by omega
        have hkn : (k : Int) < (n : Int) := by omega
        have hk0 : (0 : Int) ≤ (k : Int) := by omega
        go_upto_region 12 with fail
        go_region_held3 (fun w' => w'.cell? ⟨bl, off + k * 2, none⟩ = some (.int .i64 ak) ∧ w'.cell? ⟨bl, off + k * 2 + 1, none⟩ = some (.int .i64 bk) ∧ w'.cell? ⟨bl, off + j * 2, none⟩ = some (.int .i64 aj) ∧ w'.cell? ⟨bl, off + j * 2 + 1, none⟩ = some (.int .i64 bj)) (first | (refine ⟨?_, ?_, ?_, ?_⟩ <;> assumption) | assumption | exact keepB4 (by assumption) (by assumption)) (first | (go_at_call 17; refine (C1.out _).mono ?_; rintro e w' ⟨rfl, hbx⟩))
        have hB2 := below_pass hB.drew hB.size hbx
        clear hbx hx hy hx2 hy2
        go_wp2_with fail
        · exfalso
          have hkj := ‹k < j›
          have hne := hl.2 (by omega)
          rcases ‹x < 0 ∨ (x == 0) = true› with h | h
          · omega
          · simp at h
            omega
        all_goals
          go_roundg (n - (k + 1))
          case measure => omega
          case rel => exact ⟨k + 1, by omega, rfl, by go_num, hB2⟩
      · go_wp2_with fail
        all_goals
          go_ret
          exact ⟨rfl, hB⟩

end Go.Proofs.Ytnjgkgnjbmfpfaa
