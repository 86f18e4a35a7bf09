/- Walks of the document's Reach and of DepsCycles. -/
import Derived.Test.YtecimlbdcldkdaaLa
import Derived.Test.YtecimlbdcldkdaaCycP
namespace Go.Proofs.Ytecimlbdcldkdaa
open Go.RowKit Dep

def hitB (n : Nat) (a : Nat → List Int) (k s i : Nat) (x : Int) : Bool := (x == (k : Int)) || ((decide (0 ≤ x) && decide (x < (n : Int)) && !(x == (i : Int))) && reachB n a k s x.toNat)
theorem reachB_succ (n : Nat) (a : Nat → List Int) (k s i : Nat) : reachB n a k (s + 1) i = (a i).any (hitB n a k s i) := rfl
theorem pre_mem {e : Nat → Nat → Int} {i j l : Nat} (h : j < l) : e i j ∈ pre e i l := by
  unfold pre
  exact List.mem_map.2 ⟨j, List.mem_range.2 h, rfl⟩

set_option maxRecDepth 100000 in
set_option maxHeartbeats 4000000 in
theorem reach_any (A0 : Option Addr) (n c : Nat) (m : Nat → Nat) (e : Nat → Nat → Int) (hn : n ≤ 1000) (hm : ∀ i, i < n → m i ≤ 1000) (k : Nat) (hk : k < n) : ∀ (s : Nat), s ≤ 1000 → ∀ (i : Nat), i < n → ∀ (w : World), RowsN w A0 n m e →
    Calls Try.prog 16 #[.slice A0 n c, .int .i64 (i : Int), .int .i64 (k : Int), .int .i64 (s : Int)] w fun x w' => x = .returned (.bool (reachB n (rowsOf m e) k s i)) ∧ Below w.heap.size w w' := by
  intro s
  induction s with
  | zero =>
    intro _ i hi w hrow
    clear hrow
    go_enter Try.func16, Try.ntmps16
    go_wp2_with fail
    go_ret
    exact ⟨rfl, Below.refl _ _⟩
  | succ s ih =>
    intro hs i hi w hrow
    have IH := Lib.hid ih
    have HR := Lib.hid hrow
    obtain ⟨bl, off, rfl, hrows⟩ := hrow (by omega)
    obtain ⟨Ai, ci, hcell, hnums⟩ := hrows i hi
    have HC := Lib.hid (show _ ∧ _ from ⟨hcell, hnums⟩)
    have hmi : ((m i : Nat) : Int) ≤ 1000 := by have := hm i hi; omega
    have i0 : (0 : Int) ≤ (i : Int) := by omega
    have i1 : (i : Int) < (n : Int) := by omega
    have hnn : (n : Int) ≤ 1000 := by omega
    have hss : (s : Int) ≤ 1000 := by omega
    have hs0 : (((s + 1 : Nat) : Int) == 0) = false := by simp; omega
    clear ih hrow hrows hcell hnums hm
    go_enter Try.func16, Try.ntmps16
    go_wp2_with fail
    go_loopg [9] (m i) (fun g s9 wr => ∃ j : Nat, j ≤ m i ∧ g = m i - j ∧ s9 = .int .i64 j ∧ Hid ((pre e i j).any (hitB n (rowsOf m e) k s i) = false ∧ Below w.heap.size w wr))
    case atStart => exact ⟨0, by omega, by omega, rfl, Lib.hid ⟨rfl, Below.refl _ _⟩⟩
    case round =>
      obtain ⟨j, hj, hg, rfl, H⟩ := hrel
      have r0 : wr.cell? ⟨bl, off + i, none⟩ = some (.slice Ai (m i) ci) := keep_below HC.out.1 H.out.2
      have j0 : (0 : Int) ≤ (j : Int) := by omega
      by_cases hjm : j < m i
      · obtain ⟨g1, o1, rfl, hc⟩ := HC.out.2 (by omega)
        have r1 : wr.cell? ⟨g1, o1 + j, none⟩ = some (.int .i64 (e i j)) := keep_below (hc j hjm) H.out.2
        obtain ⟨x, hx⟩ : ∃ x, Hid (e i j = x) := ⟨_, Lib.hid rfl⟩
        rw [hx.out] at r1
        have j1 : (j : Int) < ((m i : Nat) : Int) := by omega
        have hyes : Hid (hitB n (rowsOf m e) k s i x = true → reachB n (rowsOf m e) k (s + 1) i = true) := Lib.hid fun h => by
          rw [reachB_succ, List.any_eq_true]
          exact ⟨x, by rw [← hx.out]; exact pre_mem hjm, h⟩
        have hno : Hid (hitB n (rowsOf m e) k s i x = false → (pre e i (j + 1)).any (hitB n (rowsOf m e) k s i) = false) := Lib.hid fun h => by
          rw [pre_succ, List.any_append, H.out.1, hx.out]
          simp [h]
        clear hc
        by_cases b1 : x = (k : Int)
        · subst b1
          have HY := Lib.hid (hyes.out (by unfold hitB; simp))
          go_wp2_with fail
          go_ret
          exact ⟨by rw [HY.out]; rfl, H.out.2⟩
        have e1 : (x == (k : Int)) = false := by simp [b1]
        by_cases b2 : x < 0
        · have HN := Lib.hid (hno.out (by unfold hitB; rw [e1]; simp; omega))
          go_wp2_with fail
          go_roundg (m i - (j + 1))
          case measure => omega
          case rel => exact ⟨j + 1, by omega, rfl, by go_num, Lib.hid ⟨HN.out, H.out.2⟩⟩
        by_cases b3 : (n : Int) ≤ x
        · have HN := Lib.hid (hno.out (by unfold hitB; rw [e1]; simp; omega))
          go_wp2_with fail
          go_roundg (m i - (j + 1))
          case measure => omega
          case rel => exact ⟨j + 1, by omega, rfl, by go_num, Lib.hid ⟨HN.out, H.out.2⟩⟩
        by_cases b4 : x = (i : Int)
        · have HN := Lib.hid (hno.out (by unfold hitB; rw [e1, b4]; simp))
          subst b4
          go_wp2_with fail
          go_roundg (m i - (j + 1))
          case measure => omega
          case rel => exact ⟨j + 1, by omega, rfl, by go_num, Lib.hid ⟨HN.out, H.out.2⟩⟩
        have e2 : (x == (i : Int)) = false := by simp [b4]
        obtain ⟨t, rfl⟩ := Int.eq_ofNat_of_zero_le (by omega : 0 ≤ x)
        have ht : t < n := by omega
        have t1 : (t : Int) < (n : Int) := by omega
        have hval : Hid (hitB n (rowsOf m e) k s i (t : Int) = reachB n (rowsOf m e) k s t) := Lib.hid (by
          unfold hitB
          rw [e1, e2, Int.toNat_natCast]
          have h1 : decide ((0 : Int) ≤ (t : Int)) = true := by simp
          have h2 : decide ((t : Int) < (n : Int)) = true := by simpa using ht
          rw [h1, h2]
          simp)
        clear b1 b2 b3 b4
        go_wp2_with fail
        refine (IH.out (by omega) t ht wr (HR.out.below H.out.2)).mono ?_
        rintro x5 w5 ⟨rfl, hb5⟩
        have HB5 := Lib.hid (below_up H.out.2 hb5)
        clear hb5
        obtain ⟨bb, hbb⟩ : ∃ bb, Hid (reachB n (rowsOf m e) k s t = bb) := ⟨_, Lib.hid rfl⟩
        rw [hbb.out]
        cases bb with
        | true =>
          have HY := Lib.hid (hyes.out (by rw [hval.out, hbb.out]))
          go_wp2_with fail
          go_ret
          exact ⟨by rw [HY.out]; rfl, HB5.out⟩
        | false =>
          have HN := Lib.hid (hno.out (by rw [hval.out, hbb.out]))
          go_wp2_with fail
          go_roundg (m i - (j + 1))
          case measure => omega
          case rel => exact ⟨j + 1, by omega, rfl, by go_num, Lib.hid ⟨HN.out, HB5.out⟩⟩
      · obtain rfl : j = m i := by omega
        have HF := Lib.hid (show reachB n (rowsOf m e) k (s + 1) i = false by rw [reachB_succ]; exact H.out.1)
        go_wp2_with fail
        go_ret
        exact ⟨by rw [HF.out]; rfl, H.out.2⟩

set_option maxRecDepth 100000 in
set_option maxHeartbeats 4000000 in
theorem walk_DepsCycles (A0 : Option Addr) (n c : Nat) {w : World} (hro : ∃ m e, RowsIn w A0 n m e) :
    Calls Try.prog 4 #[.slice A0 n c] w fun x w' => x = .returned (.bool true) ∧ Below w.heap.size w w' := by
  obtain ⟨m, e, hro⟩ := hro
  have HR := Lib.hid hro.nums
  clear hro
  go_enter Try.func4, Try.ntmps4
  go_wp2_with fail
  refine (awake_any w).mono ?_
  rintro x w1 ⟨rfl, B1⟩
  have R1 := Lib.hid (HR.out.below B1)
  have HB1 := Lib.hid B1
  clear B1
  go_wp2_with fail
  refine (small_any A0 n c m e 6 (by decide) w1 R1.out).mono ?_
  rintro x w2 ⟨b, rfl, hb, rfl⟩
  cases b with
  | false =>
    clear hb
    go_wp2_with fail
    go_ret
    exact ⟨rfl, HB1.out⟩
  | true =>
    obtain ⟨hn, hm⟩ := hb rfl
    have hm2 : ∀ i, i < n → m i ≤ 1000 := fun i hi => Nat.le_trans (hm i hi) (by decide)
    have HM := Lib.hid hm2
    have hnn : (n : Int) ≤ 6 := by omega
    clear hb hm hm2
    go_wp2_with fail
    go_loopg [5] n (fun g s5 wr => ∃ i : Nat, i ≤ n ∧ g = n - i ∧ s5 = .int .i64 i ∧ w2 = wr)
    case atStart => exact ⟨0, by omega, by omega, rfl, rfl⟩
    case round =>
      obtain ⟨i, hi, hg, rfl, rfl⟩ := hrel
      by_cases hin : i < n
      · obtain ⟨bl, off, rfl, hrows⟩ := R1.out (by omega)
        obtain ⟨Ai, ci, hcell, _⟩ := hrows i hin
        obtain ⟨mi, hmi⟩ : ∃ mi, Hid (m i = mi) := ⟨_, Lib.hid rfl⟩
        rw [hmi.out] at hcell
        clear hrows
        have i0 : (0 : Int) ≤ (i : Int) := by omega
        have i1 : (i : Int) < (n : Int) := by omega
        by_cases h4 : (4 : Int) < (mi : Int)
        · go_wp2_with fail
          go_ret
          exact ⟨rfl, HB1.out⟩
        · go_wp2_with fail
          go_roundg (n - (i + 1))
          case measure => omega
          case rel => exact ⟨i + 1, by omega, rfl, by go_num, rfl⟩
      · obtain rfl : n = i := by omega
        go_wp2_with fail
        go_loopg [6, 7] n (fun g s6 s7 wr => ∃ (i : Nat) (b : Bool), i ≤ n ∧ g = n - i ∧ s7 = .int .i64 i ∧ s6 = .bool b ∧ Hid ((b = true ↔ ∃ k, k < i ∧ reachB n (rowsOf m e) k n k = true) ∧ Below w2.heap.size w2 wr))
        case atStart => exact ⟨0, false, by omega, by omega, rfl, rfl, Lib.hid ⟨⟨fun h => (by cases h), fun ⟨k, hk, _⟩ => (by omega)⟩, Below.refl _ _⟩⟩
        case round =>
          obtain ⟨i, b, hi, hg, rfl, rfl, H⟩ := hrel
          by_cases hin : i < n
          · have i0 : (0 : Int) ≤ (i : Int) := by omega
            have i1 : (i : Int) < (n : Int) := by omega
            go_wp2_with fail
            refine (reach_any A0 n c m e (by omega) HM.out i hin n (by omega) i hin wr (R1.out.below H.out.2)).mono ?_
            rintro x5 w5 ⟨rfl, hb5⟩
            have HB5 := Lib.hid (below_up H.out.2 hb5)
            clear hb5
            obtain ⟨bb, hbb⟩ : ∃ bb, Hid (reachB n (rowsOf m e) i n i = bb) := ⟨_, Lib.hid rfl⟩
            rw [hbb.out]
            have hnext : Hid ((b || bb) = true ↔ ∃ k, k < i + 1 ∧ reachB n (rowsOf m e) k n k = true) := Lib.hid (by
              rw [Bool.or_eq_true, H.out.1]
              constructor
              · rintro (⟨k, h1, h2⟩ | h)
                · exact ⟨k, by omega, h2⟩
                · exact ⟨i, by omega, by rw [hbb.out]; exact h⟩
              · rintro ⟨k, h1, h2⟩
                by_cases c : k = i
                · right; rw [← hbb.out, ← c]; exact h2
                · left; exact ⟨k, by omega, h2⟩)
            cases b with
            | true =>
              go_wp2_with fail
              go_roundg (n - (i + 1))
              case measure => omega
              case rel => exact ⟨i + 1, true, by omega, rfl, by go_num, rfl, Lib.hid ⟨hnext.out, HB5.out⟩⟩
            | false =>
              go_wp2_with fail
              go_roundg (n - (i + 1))
              case measure => omega
              case rel => exact ⟨i + 1, bb, by omega, rfl, by go_num, rfl, Lib.hid ⟨by have := hnext.out; rwa [Bool.false_or] at this, HB5.out⟩⟩
          · obtain rfl : n = i := by omega
            go_wp2_with fail
            refine (cyclic_any A0 n c m e (by omega) HM.out wr (R1.out.below H.out.2)).mono ?_
            rintro x6 w6 ⟨o6, b6, rfl, k1, k2⟩
            have hcy := cyc_iff k1
            have hbb : b = !b6 := by
              cases b6 with
              | true =>
                cases b with
                | false => rfl
                | true => exact absurd (hcy.2 (H.out.1.1 rfl)) (by decide)
              | false =>
                cases b with
                | true => rfl
                | false => exact absurd (H.out.1.2 (hcy.1 rfl)) (by decide)
            have HB6 := Lib.hid (below_up HB1.out (below_up H.out.2 k2))
            subst hbb
            clear k1 k2 hcy H
            go_wp2_with fail
            go_ret
            exact ⟨by simp, HB6.out⟩
end Go.Proofs.Ytecimlbdcldkdaa
