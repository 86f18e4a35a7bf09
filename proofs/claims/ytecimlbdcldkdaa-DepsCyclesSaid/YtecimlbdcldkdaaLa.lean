/- Walk of DepsOrders. -/
import Derived.Test.YtecimlbdcldkdaaAwk
namespace Go.Proofs.Ytecimlbdcldkdaa
open Go.RowKit Dep

/-- are rows few and short -/
def SmallSaid (n : Nat) (m : Nat → Nat) (many : Nat) (w : World) (x : Ending) (w' : World) : Prop := ∃ b, x = .returned (.bool b) ∧ (b = true → n ≤ many ∧ ∀ i, i < n → m i ≤ many) ∧ w' = w
set_option maxHeartbeats 1000000 in
theorem small_any (A0 : Option Addr) (n c : Nat) (m : Nat → Nat) (e : Nat → Nat → Int) (many : Nat) (hmany : many ≤ 1000) (w : World) (hrow : RowsN w A0 n m e) :
    Calls Try.prog 11 #[.slice A0 n c, .int .i64 (many : Int)] w (SmallSaid n m many w) := by
  have HROW := Lib.hid hrow
  clear hrow
  have h0 : (many : Int) ≤ 1000 := by omega
  go_enter Try.func11, Try.ntmps11
  by_cases hn : (many : Int) < (n : Int)
  · go_wp2_with fail
    go_ret
    exact ⟨false, rfl, fun h => (by cases h), rfl⟩
  · have hn2 : (n : Int) ≤ (many : Int) := by omega
    go_wp2_with fail
    go_loopg [5] n (fun g s5 wr => ∃ i : Nat, i ≤ n ∧ g = n - i ∧ s5 = .int .i64 i ∧ Hid (∀ k, k < i → m k ≤ many) ∧ wr = w)
    case atStart => exact ⟨0, by omega, by omega, rfl, Lib.hid (fun k hk => by omega), rfl⟩
    case round =>
      obtain ⟨i, hi, hg, rfl, H, rfl⟩ := hrel
      by_cases hin : i < n
      · obtain ⟨bl, off, rfl, hrows⟩ := HROW.out (by omega)
        obtain ⟨Ai, ci, hcell, hnums⟩ := hrows i hin
        obtain ⟨mi, hmi⟩ : ∃ mi, Hid (m i = mi) := ⟨_, Lib.hid rfl⟩
        rw [hmi.out] at hcell
        clear hrows hnums
        have i0 : (0 : Int) ≤ (i : Int) := by omega
        have i1 : (i : Int) < (n : Int) := by omega
        by_cases hb : (many : Int) < (mi : Int)
        · go_wp2_with fail
          go_ret
          exact ⟨false, rfl, fun h => (by cases h), rfl⟩
        · have hb2 : (mi : Int) ≤ (many : Int) := by omega
          go_wp2_with fail
          go_roundg (n - (i + 1))
          case measure => omega
          case rel =>
            refine ⟨i + 1, by omega, rfl, by go_num, Lib.hid fun k hk => ?_, rfl⟩
            by_cases e1 : k = i
            · rw [e1, hmi.out]; omega
            · exact H.out k (by omega)
      · obtain rfl : n = i := by omega
        go_wp2_with fail
        go_ret
        exact ⟨true, rfl, fun _ => ⟨by omega, H.out⟩, rfl⟩

set_option maxRecDepth 100000 in
set_option maxHeartbeats 4000000 in
theorem walk_DepsOrders (A0 : Option Addr) (n c : Nat) {w : World} (hro : ∃ m e, RowsIn w A0 n m e) :
    Calls Try.prog 3 #[.slice A0 n c] w fun x w' => x = .returned (.bool true) ∧ Below w.heap.size w w' := by
  obtain ⟨m, e, hro⟩ := hro
  have HR := Lib.hid hro.nums
  clear hro
  go_enter Try.func3, Try.ntmps3
  go_wp2_with fail
  refine (awake_any w).mono ?_
  rintro x w1 ⟨rfl, B1⟩
  have R1 := Lib.hid (HR.out.below B1)
  have HB1 := Lib.hid B1
  clear B1
  go_wp2_with fail
  refine (small_any A0 n c m e 25 (by decide) w1 R1.out).mono ?_
  rintro x w2 ⟨b, rfl, hb, rfl⟩
  cases b with
  | false =>
    clear hb
    go_wp2_with fail
    go_ret
    exact ⟨rfl, HB1.out⟩
  | true =>
    obtain ⟨hn, hm⟩ := hb rfl
    have hm2 : ∀ i, i < n → m i ≤ 1000 := fun i hi => Nat.le_trans (hm i hi) (by decide)
    have HM := Lib.hid hm2
    clear hb hm hm2
    go_wp2_with fail
    refine (order_any A0 n c m e (by omega) HM.out w2 R1.out).mono ?_
    rintro x w3 (⟨r, o, rfl, h1, h2, h3⟩ | ⟨o, rfl, h1, h3⟩)
    · have HB3 := Lib.hid (below_up HB1.out h3)
      have R3 := Lib.hid (R1.out.below h3)
      have HO := Lib.hid (show _ ∧ _ from ⟨h1, h2⟩)
      clear h1 h2 h3
      go_wp2_with fail
      refine (rorder_any A0 n c m e (by omega) HM.out w3 R3.out).mono ?_
      rintro x w4 (⟨r4, o4, rfl, g1, g2, g3⟩ | ⟨o4, rfl, g1, g3⟩)
      · obtain ⟨rfl, _⟩ := g1.unique HO.out.1
        have HB4 := Lib.hid (below_up HB3.out g3)
        have R4 := Lib.hid (R3.out.below g3)
        have F3 := HO.out.2.pass g3
        obtain ⟨A3, c3, e3⟩ := F3.form
        obtain ⟨A4, c4, e4⟩ := g2.form
        subst e3 e4
        have hol : o4.length ≤ 1000000 := by
          have h := g1.length_le
          rw [List.length_nil] at h
          omega
        have C := Lib.hid (same_any A3 A4 o4.length c3 c4 _ hol w4 F3.nums g2.nums)
        clear g1 g2 g3 F3
        generalize o4.length = ol at *
        go_wp2_with fail
        refine C.out.mono ?_
        rintro x w5 ⟨rfl, B5⟩
        have HB5 := Lib.hid (below_up HB4.out B5)
        have R5 := Lib.hid (R4.out.below B5)
        clear B5 C
        go_wp2_with fail
        refine (cyclic_any A0 n c m e (by omega) HM.out w5 R5.out).mono ?_
        rintro x w6 ⟨o6, b6, rfl, k1, k2⟩
        obtain ⟨_, rfl⟩ := k1.unique HO.out.1
        have HB6 := Lib.hid (below_up HB5.out k2)
        clear k1 k2
        go_wp2_with fail
        go_ret
        exact ⟨rfl, HB6.out⟩
      · cases (g1.unique HO.out.1).2
    · have HB3 := Lib.hid (below_up HB1.out h3)
      have R3 := Lib.hid (R1.out.below h3)
      have HO := Lib.hid h1
      clear h1 h3
      go_wp2_with fail
      refine (rorder_any A0 n c m e (by omega) HM.out w3 R3.out).mono ?_
      rintro x w4 (⟨r4, o4, rfl, g1, g2, g3⟩ | ⟨o4, rfl, g1, g3⟩)
      · cases (g1.unique HO.out).2
      · have HB4 := Lib.hid (below_up HB3.out g3)
        have R4 := Lib.hid (R3.out.below g3)
        have C := Lib.hid (same_any none none 0 0 0 (fun _ => 0) (by decide) w4 (fun h => absurd h (by decide)) (fun h => absurd h (by decide)))
        clear g1 g3
        go_wp2_with fail
        refine C.out.mono ?_
        rintro x w5 ⟨rfl, B5⟩
        have HB5 := Lib.hid (below_up HB4.out B5)
        have R5 := Lib.hid (R4.out.below B5)
        clear B5 C
        go_wp2_with fail
        refine (cyclic_any A0 n c m e (by omega) HM.out w5 R5.out).mono ?_
        rintro x w6 ⟨o6, b6, rfl, k1, k2⟩
        obtain ⟨_, rfl⟩ := k1.unique HO.out
        have HB6 := Lib.hid (below_up HB5.out k2)
        clear k1 k2
        go_wp2_with fail
        go_ret
        exact ⟨rfl, HB6.out⟩
end Go.Proofs.Ytecimlbdcldkdaa
