/- Walk of corveeref01.In: is a number in a row. -/
import Derived.Test.YtecimlbdcldkdaaWk
namespace Go.Proofs.Ytecimlbdcldkdaa
open Go.RowKit

set_option maxHeartbeats 1000000 in
theorem in_any (A : Option Addr) (k cap : Nat) (d : Nat → Int) (x : Int) (b : Bool) (hb : b = true ↔ ∃ j, j < k ∧ d j = x) (hk : k ≤ 1000000) (w : World) (h : NumsAt w A k d) :
    Calls Try.prog 23 #[.slice A k cap, .int .i64 x] w fun e w' => e = .returned (.bool b) ∧ w = w' := by
  have H := Lib.hid h
  have HB := Lib.hid hb
  clear h hb
  go_enter Try.func23, Try.ntmps23
  go_wp2_with fail
  go_loopg [5] k (fun g s5 wr => ∃ i : Nat, i ≤ k ∧ g = k - i ∧ s5 = .int .i64 i ∧ Hid (∀ j, j < i → d j ≠ x) ∧ wr = w)
  case atStart => exact ⟨0, by omega, by omega, rfl, Lib.hid (fun j hj => by omega), rfl⟩
  case round =>
    obtain ⟨i, hi, hg, rfl, HN, rfl⟩ := hrel
    by_cases hlt : i < k
    · obtain ⟨g, o, rfl, hc⟩ := H.out (by omega)
      have c0 := hc i hlt
      obtain ⟨y, hy⟩ : ∃ y, Hid (d i = y) := ⟨_, Lib.hid rfl⟩
      rw [hy.out] at c0
      clear hc
      have i0 : (0 : Int) ≤ (i : Int) := by omega
      have i1 : (i : Int) < (k : Int) := by omega
      by_cases e : y = x
      · have e1 : (y == x) = true := by simp [e]
        have hbt : b = true := HB.out.2 ⟨i, hlt, hy.out.trans e⟩
        have HE := Lib.hid e
        clear e
        subst hbt
        go_wp2_with fail
        go_ret
        exact ⟨rfl, rfl⟩
      · have e1 : (y == x) = false := by simp [e]
        have HE := Lib.hid e
        clear e
        go_wp2_with fail
        go_roundg (k - (i + 1))
        case measure => omega
        case rel =>
          refine ⟨i + 1, by omega, rfl, by go_num, Lib.hid (fun j hj => ?_), rfl⟩
          by_cases q : j = i
          · rw [q, hy.out]; exact HE.out
          · exact HN.out j (by omega)
    · have hbf : b = false := by
        cases b with
        | false => rfl
        | true =>
          obtain ⟨j, j1, j2⟩ := HB.out.1 rfl
          exact absurd j2 (HN.out j (by omega))
      subst hbf
      go_wp2_with fail
      go_ret
      exact ⟨rfl, rfl⟩
end Go.Proofs.Ytecimlbdcldkdaa
