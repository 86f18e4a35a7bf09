/- Walk of rotate: two neighbouring ranges change places. -/
import Derived.Test.YtnjgkgnjbmfpfaaSo
namespace Go.Proofs.Ytnjgkgnjbmfpfaa
open Go.RowKit

set_option maxHeartbeats 2000000 in
theorem rotate_any {g : Nat} {lb : Array Value} {cmp : Int → Int → Int} {Ok : Int → Prop} {K : World → Prop} {w0 : World} {B blk off n : Nat} {t : TypeId} (E : Env Try.prog g lb cmp Ok K w0 B blk) (f : Value) (cap a m b : Nat) (ham : a < m) (hmb : m < b) (hbn : b ≤ n) (hn : n ≤ 1000000) (d : Nat → Int) (w : World) (h : SS K w0 B blk off n t d w) :
    Calls Try.prog 60 #[.slice (some ⟨blk, off, none⟩) n cap, .int .i64 a, .int .i64 m, .int .i64 b, f] w fun e w' => e = .returned (.tuple #[]) ∧ SS K w0 B blk off n t (Srt.rot a m b d) w' := by
  have E' := Lib.hid E
  clear E
  have e1 : ((m - a : Nat) : Int) = (m : Int) - a := by omega
  have e2 : ((b - m : Nat) : Int) = (b : Int) - m := by omega
  go_enter Try.func60, Try.ntmps60
  go_wp2_with fail
  go_loopg [10, 11] (b - a) (fun g s10 s11 wr => ∃ i j : Nat, 0 < i ∧ 0 < j ∧ i ≤ m - a ∧ j ≤ b - m ∧ g = i + j ∧ s10 = .int .i64 i ∧ s11 = .int .i64 j ∧ ∃ cur, Srt.rot (m - i) m (m + j) cur = Srt.rot a m b d ∧ SS K w0 B blk off n t cur wr)
  case atStart => exact ⟨m - a, b - m, by omega, by omega, by omega, by omega, by omega, by rw [e1], by rw [e2], d, by rw [show m - (m - a) = a by omega, show m + (b - m) = b by omega], h⟩
  case round =>
    obtain ⟨i, j, hi, hj, him, hjb, hg, rfl, rfl, cur, hrot, hS⟩ := hrel
    have HR := Lib.hid hrot
    clear hrot h e1 e2
    have e3 : ((m - i : Nat) : Int) = (m : Int) - i := by omega
    by_cases hij : i = j
    · subst hij
      have C := swapRange_any E'.out f cap (m - i) m i (by omega) (by omega) hn cur wr hS
      rw [e3, Srt.rot_even (by omega), HR.out] at C
      have HC := Lib.hid C
      clear C hS
      go_wp2_with fail
      refine HC.out.mono ?_
      rintro e w1 ⟨rfl, hS1⟩
      go_wp2_with fail
      go_end0
      exact ⟨rfl, hS1⟩
    · have hne : ((i : Int) == (j : Int)) = false := by simp; omega
      by_cases hlt : j < i
      · have C := swapRange_any E'.out f cap (m - i) m j (by omega) (by omega) hn cur wr hS
        rw [e3] at C
        have hr := Srt.rot_more hlt (show i ≤ m by omega) cur
        rw [HR.out] at hr
        have HR2 := Lib.hid hr
        have HC := Lib.hid C
        clear C hS hr
        go_wp2_with fail
        refine HC.out.mono ?_
        rintro e w1 ⟨rfl, hS1⟩
        go_wp2_with fail
        go_roundg (i - j + j)
        case measure => omega
        case rel => exact ⟨i - j, j, by omega, by omega, by omega, by omega, rfl, by go_num, rfl, _, HR2.out, hS1⟩
      · have C := swapRange_any E'.out f cap (m - i) (m + j - i) i (by omega) (by omega) hn cur wr hS
        rw [e3, show ((m + j - i : Nat) : Int) = (m : Int) + j - i by omega] at C
        have hr := Srt.rot_less (show i < j by omega) (show i ≤ m by omega) cur
        rw [HR.out] at hr
        have HR2 := Lib.hid hr
        have HC := Lib.hid C
        clear C hS hr
        go_wp2_with fail
        refine HC.out.mono ?_
        rintro e w1 ⟨rfl, hS1⟩
        go_wp2_with fail
        go_roundg (i + (j - i))
        case measure => omega
        case rel => exact ⟨i, j - i, by omega, by omega, by omega, by omega, rfl, rfl, by go_num, _, HR2.out, hS1⟩
end Go.Proofs.Ytnjgkgnjbmfpfaa
