/- Walk of DepsResolves. -/
import Derived.Test.YtecimlbdcldkdaaLa
import Derived.Test.YtecimlbdcldkdaaRres
import Derived.Deep.RegionHeld3
namespace Go.Proofs.Ytecimlbdcldkdaa
open Go.RowKit Dep

/-- Same at two rows of the same places -/
theorem same_frs {w : World} {b b' : Nat} {A B : Option Addr} {n c1 c2 : Nat} {l : List Nat} (h : FR w b (.slice A n c1) l) (h' : FR w b' (.slice B n c2) l) (hn : n ≤ 1000000) :
    Calls Try.prog 14 #[.slice A n c1, .slice B n c2] w fun e w' => e = .returned (.bool true) ∧ Below w.heap.size w w' :=
  same_any A B n c1 c2 _ hn w h.nums h'.nums
theorem RowsOut.pass {w w' : World} {b : Nat} {A : Option Addr} {n : Nat} {ls : Nat → List Nat} (h : RowsOut w b A n ls) (hb : Below w.heap.size w w') : RowsOut w' b A n ls := fun k hk => by
  obtain ⟨g, o, v, h1, h2, h3⟩ := h k hk
  exact ⟨g, o, v, h1, keep_below h2 hb, h3.pass hb⟩
theorem IntsIn.nums {w : World} {A : Option Addr} {n : Nat} {e : Nat → Int} (h : IntsIn w A n e) : NumsAt w A n e := h.2.1

set_option maxRecDepth 100000 in
set_option maxHeartbeats 4000000 in
theorem walk_DepsResolves (a0 : Int) (A1 : Option Addr) (n1 c1 : Nat) (A2 : Option Addr) (n2 c2 : Nat) {w : World} (_ha : In64 a0) (h1 : ∃ e, IntsIn w A1 n1 e) (h2 : ∃ m e, RowsIn w A2 n2 m e) :
    Calls Try.prog 5 #[.int .i64 a0, .slice A1 n1 c1, .slice A2 n2 c2] w fun x w' => x = .returned (.bool true) ∧ Below w.heap.size w w' := by
  obtain ⟨sz, h1⟩ := h1
  obtain ⟨m, e, h2⟩ := h2
  have HR := Lib.hid (show _ ∧ _ from ⟨h1.nums, h2.nums⟩)
  clear h1 h2
  go_enter Try.func5, Try.ntmps5
  go_wp2_with fail
  refine (awake_any w).mono ?_
  rintro x w1 ⟨rfl, B1⟩
  have R1 := Lib.hid (show _ ∧ _ from ⟨HR.out.1.below B1, HR.out.2.below B1⟩)
  have HB1 := Lib.hid B1
  clear B1
  go_wp2_with fail
  refine (small_any A2 n2 c2 m e 20 (by decide) w1 R1.out.2).mono ?_
  rintro x w2 ⟨b, rfl, hb, rfl⟩
  cases b with
  | false =>
    clear hb
    go_wp2_with fail
    go_ret
    exact ⟨rfl, HB1.out⟩
  | true =>
    obtain ⟨hn, hm⟩ := hb rfl
    have hm2 : ∀ i, i < n2 → m i ≤ 1000 := fun i hi => Nat.le_trans (hm i hi) (by decide)
    have HM := Lib.hid (show _ ∧ _ from ⟨hm2, hm⟩)
    clear hb hm hm2
    by_cases hbig : (20 : Int) < (n1 : Int)
    · go_wp2_with fail
      go_ret
      exact ⟨rfl, HB1.out⟩
    have hn1 : n1 ≤ 1000 := by omega
    go_wp2_with fail
    refine (resolve_any a0 A1 n1 c1 sz hn1 A2 n2 c2 m e (by omega) HM.out.1 w2 R1.out.1 R1.out.2).mono ?_
    rintro x w3 ⟨B3, hs3⟩
    have HB3 := Lib.hid (below_up HB1.out B3)
    have R3 := Lib.hid (show _ ∧ _ from ⟨R1.out.1.below B3, R1.out.2.below B3⟩)
    clear B3
    have C := Lib.hid (rresolve_any a0 A1 n1 c1 sz hn1 A2 n2 c2 m e (by omega) HM.out.1 w3 R3.out.1 R3.out.2)
    rcases hs3 with ⟨g1, rfl⟩ | ⟨g1, ⟨g2, rfl⟩ | ⟨g2, ⟨o, g3, rfl⟩ | ⟨o, g3, A4, c4, ls, rfl, g4, g5⟩⟩⟩
    · have G := Lib.hid g1
      clear g1
      go_wp2_with fail
      refine C.out.mono ?_
      rintro x w4 ⟨B4, hs4⟩
      obtain rfl : x = .returned (.tuple #[.slice none 0 0, .int .i64 1]) := by
        rcases hs4 with ⟨k1, rfl⟩ | ⟨k1, _⟩
        · rfl
        · exact absurd G.out k1
      have HB4 := Lib.hid (below_up HB3.out B4)
      clear B4 hs4 C
      go_wp2_with fail
      go_loopg [13] 0 (fun g s13 wr => s13 = .int .i64 0 ∧ g = 0 ∧ wr = w4)
      case atStart => exact ⟨rfl, rfl, rfl⟩
      case round =>
        obtain ⟨rfl, rfl, rfl⟩ := hrel
        go_wp2_with fail
        go_ret
        exact ⟨rfl, HB4.out⟩
    · have G := Lib.hid (show _ ∧ _ from ⟨g1, g2⟩)
      clear g1 g2
      go_wp2_with fail
      refine C.out.mono ?_
      rintro x w4 ⟨B4, hs4⟩
      obtain rfl : x = .returned (.tuple #[.slice none 0 0, .int .i64 90]) := by
        rcases hs4 with ⟨k1, _⟩ | ⟨k1, ⟨k2, rfl⟩ | ⟨k2, _⟩⟩
        · exact absurd k1 G.out.1
        · rfl
        · exact absurd k2 G.out.2
      have HB4 := Lib.hid (below_up HB3.out B4)
      clear B4 hs4 C
      go_wp2_with fail
      go_loopg [13] 0 (fun g s13 wr => s13 = .int .i64 0 ∧ g = 0 ∧ wr = w4)
      case atStart => exact ⟨rfl, rfl, rfl⟩
      case round =>
        obtain ⟨rfl, rfl, rfl⟩ := hrel
        go_wp2_with fail
        go_ret
        exact ⟨rfl, HB4.out⟩
    · have G := Lib.hid (show _ ∧ _ ∧ _ from ⟨g1, g2, g3⟩)
      clear g1 g2 g3
      go_wp2_with fail
      refine C.out.mono ?_
      rintro x w4 ⟨B4, hs4⟩
      obtain rfl : x = .returned (.tuple #[.slice none 0 0, .int .i64 91]) := by
        rcases hs4 with ⟨k1, _⟩ | ⟨k1, ⟨k2, _⟩ | ⟨k2, ⟨o', k3, rfl⟩ | ⟨o', k3, _⟩⟩⟩
        · exact absurd k1 G.out.1
        · exact absurd G.out.2.1 k2
        · rfl
        · cases (k3.unique G.out.2.2).2
      have HB4 := Lib.hid (below_up HB3.out B4)
      clear B4 hs4 C
      go_wp2_with fail
      go_loopg [13] 0 (fun g s13 wr => s13 = .int .i64 0 ∧ g = 0 ∧ wr = w4)
      case atStart => exact ⟨rfl, rfl, rfl⟩
      case round =>
        obtain ⟨rfl, rfl, rfl⟩ := hrel
        go_wp2_with fail
        go_ret
        exact ⟨rfl, HB4.out⟩
    · have G := Lib.hid (show _ ∧ _ ∧ _ ∧ _ ∧ _ from ⟨g1, g2, g3, g4, g5⟩)
      clear g1 g2 g3 g4 g5
      go_wp2_with fail
      refine C.out.mono ?_
      rintro x w4 ⟨B4, hs4⟩
      obtain ⟨A5, c5, ls5, rfl, k4, k5⟩ : ∃ A c ls5, x = .returned (.tuple #[.slice A n2 c, .int .i64 0]) ∧ RowsOut w4 w3.heap.size A n2 ls5 ∧ ∀ k, k < n2 → (ls5 k).Pairwise (· < ·) ∧ ∀ y, y ∈ ls5 k ↔ y ∈ jobsP a0 sz e k (m k) := by
        rcases hs4 with ⟨k1, _⟩ | ⟨k1, ⟨k2, _⟩ | ⟨k2, ⟨o', k3, _⟩ | ⟨o', k3, A, c, ls5, rfl, k4, k5⟩⟩⟩
        · exact absurd k1 G.out.1
        · exact absurd G.out.2.1 k2
        · cases (k3.unique G.out.2.2.1).2
        · exact ⟨A, c, ls5, rfl, k4, k5⟩
      have HLS : Hid (∀ k, k < n2 → ls5 k = ls k ∧ (ls k).length ≤ 400) := Lib.hid fun k hk => by
        have h1 := G.out.2.2.2.2 k hk
        have h2 := k5 k hk
        refine ⟨uniq_rise h2.1 h1.1 fun y => (h2.2 y).trans (h1.2 y).symm, ?_⟩
        have h3 := rise_len h1.1 h1.2
        have hok : ∀ q, q < n2 → 1 ≤ sz q ∧ sz q ≤ 20 := fun q hq => by
          have hna := G.out.1
          have hns : n2 = n1 := Decidable.byContradiction fun c => hna (Or.inr (Or.inr (Or.inr (Or.inl c))))
          constructor
          · exact Int.not_lt.1 fun c => hna (Or.inr (Or.inr (Or.inr (Or.inr ⟨q, by omega, Or.inl c⟩))))
          · exact Int.not_lt.1 fun c => hna (Or.inr (Or.inr (Or.inr (Or.inr ⟨q, by omega, Or.inr c⟩))))
        have h4 := jobsP_len (nx := a0) hok e k (m k) (G.out.2.1 k hk)
        have h5 := HM.out.2 k hk
        omega
      have HB4 := Lib.hid (below_up HB3.out B4)
      have K := Lib.hid (show _ ∧ _ from ⟨G.out.2.2.2.1.pass B4, k4⟩)
      clear B4 hs4 C k4 k5
      have hnn : (n2 : Int) ≤ 20 := by omega
      go_wp2_with fail
      go_loopg [13] n2 (fun g s13 wr => ∃ i : Nat, i ≤ n2 ∧ g = n2 - i ∧ s13 = .int .i64 i ∧ Below w4.heap.size w4 wr)
      case atStart => exact ⟨0, by omega, by omega, rfl, Below.refl _ _⟩
      case round =>
        obtain ⟨i, hi, hg, rfl, hBr⟩ := hrel
        have HBr := Lib.hid hBr
        by_cases hin : i < n2
        · obtain ⟨ga, oa, va, rfl, ca, fa⟩ := K.out.1.pass hBr i hin
          obtain ⟨gb, ob, vb, rfl, cb, fb⟩ := K.out.2.pass hBr i hin
          rw [(HLS.out i hin).1] at fb
          have hll := (HLS.out i hin).2
          obtain ⟨Aa, ka, ea⟩ := fa.form
          obtain ⟨Ab, kb, eb⟩ := fb.form
          subst ea eb
          have C := Lib.hid (fun W hh => same_frs (w := W) (fa.heap hh) (fb.heap hh) (by omega))
          have hkl : (ls i).length ≤ 400 := hll
          clear hll fa fb hBr
          generalize (ls i).length = kl at *
          have i0 : (0 : Int) ≤ (i : Int) := by omega
          have i1 : (i : Int) < (n2 : Int) := by omega
          go_upto_region 14 with fail
          go_region_held3 (fun w' => w'.cell? ⟨ga, oa + i, none⟩ = some (.slice Aa kl ka) ∧ w'.cell? ⟨gb, ob + i, none⟩ = some (.slice Ab kl kb)) (first | (refine ⟨?_, ?_⟩ <;> assumption) | assumption | exact keepB2 (by assumption) (by assumption)) (first | (go_at_call 14; refine (C.out wr.drew rfl).mono ?_; rintro e w' ⟨rfl, hb⟩))
          all_goals
            go_wp2_with fail
            go_roundg (n2 - (i + 1))
            case measure => omega
            case rel => exact ⟨i + 1, by omega, rfl, by go_num, below_up HBr.out.drew hb⟩
        · obtain rfl : n2 = i := by omega
          go_wp2_with fail
          go_ret
          exact ⟨rfl, below_up HB4.out HBr.out⟩
end Go.Proofs.Ytecimlbdcldkdaa
