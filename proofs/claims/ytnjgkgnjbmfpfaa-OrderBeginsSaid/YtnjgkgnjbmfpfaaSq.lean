/- Walk of the insertion sort of a range. -/
import Derived.Test.YtnjgkgnjbmfpfaaSo
import Derived.Shelf.Abstract
import Derived.BigGuard
namespace Go.Proofs.Ytnjgkgnjbmfpfaa
open Go.RowKit

set_option maxHeartbeats 4000000 in
theorem insertion_any {g : Nat} {lb : Array Value} {cmp : Int → Int → Int} {Ok : Int → Prop} {pr : Int → Int → Prop} {K : World → Prop} {w0 : World} {B blk off n : Nat} {t : TypeId} (E : Env Try.prog g lb cmp Ok K w0 B blk) (O : Srt.Ord cmp Ok pr) (cap a b : Nat) (hab : a ≤ b) (hbn : b ≤ n) (hn : n ≤ 1000000) (d : Nat → Int) (hk : Srt.All Ok n d) (hr : Srt.Rise a b d) (w : World) (h : SS K w0 B blk off n t d w) :
    Calls Try.prog 54 #[.slice (some ⟨blk, off, none⟩) n cap, .int .i64 a, .int .i64 b, .func (.func g) #[] lb] w fun e w' => e = .returned (.tuple #[]) ∧ ∃ d', Srt.On a b d d' ∧ Srt.Sd pr a b d' ∧ SS K w0 B blk off n t d' w' := by
  have E' := Lib.hid E
  have O' := Lib.hid O
  have hK := Lib.hid hk
  have hR := Lib.hid hr
  have eg := E.eg
  clear E O hk hr
  go_enter Try.func54, Try.ntmps54
  go_wp2_with fail
  go_loopg [8] (b + 1 - (a + 1)) (fun gg s8 wr => ∃ i : Nat, a < i ∧ i ≤ max b (a + 1) ∧ gg = b + 1 - i ∧ s8 = .int .i64 i ∧ ∃ e, Hid (Srt.On a (min i b) d e ∧ Srt.Sd pr a (min i b) e) ∧ SS K w0 B blk off n t e wr)
  case atStart => exact ⟨a + 1, by omega, by omega, by omega, by go_num, d, Lib.hid ⟨Srt.On.refl _ _ _, Srt.Sd.none _ _ _ (by omega)⟩, h⟩
  case round =>
    obtain ⟨i, hai, hib, hg, rfl, e, HE, hS⟩ := hrel
    by_cases hlt : i < b
    · have hI : Hid (Srt.Ins pr a i e i e) := by
        have ⟨h1, h2⟩ := HE.out
        rw [show min i b = i by omega] at h1 h2
        refine Lib.hid (Srt.Ins.start (by omega) h2 fun p p1 p2 => ?_)
        obtain ⟨q, q1, q2, q3⟩ := h1.2.1 p p1 p2
        rw [q3, h1.1 i (by omega)]
        exact hR.out q i q1 q2 hlt
      have hA : Hid (Srt.All Ok n e) := Lib.hid (HE.out.1.all (by omega) hK.out)
      clear h
      go_wp2_with fail
      go_loopg [9] i (fun gg s9 wr2 => ∃ j : Nat, gg = j ∧ s9 = .int .i64 j ∧ ∃ dj, Hid (Srt.Ins pr a i e j dj) ∧ SS K w0 B blk off n t dj wr2)
      case atStart => exact ⟨i, rfl, rfl, e, hI, hS⟩
      case round =>
        obtain ⟨j, hg2, rfl, dj, HI, hS2⟩ := hrel
        have hj1 := HI.out.aj
        have hj2 := HI.out.ji
        have hAj : Hid (Srt.All Ok n dj) := Lib.hid (HI.out.on.all (by omega) hA.out)
        clear hS
        by_cases hja : a < j
        · obtain ⟨j, rfl⟩ : ∃ k, j = k + 1 := ⟨j - 1, by omega⟩
          have hx := hS2.cell (i := j + 1) (by omega)
          have hy := hS2.cell (i := j) (by omega)
          have HS2 := Lib.hid hS2
          clear hS2
          have hC : Hid (∀ W, K W → Calls Try.prog g (#[.int .i64 (dj (j + 1)), .int .i64 (dj j)] ++ lb) W fun e w' => e = .returned (.int .i64 (cmp (dj (j + 1)) (dj j))) ∧ Below W.heap.size W w') := Lib.hid (fun W hW => E'.out.call _ _ W hW (hAj.out _ (by omega)) (hAj.out _ (by omega)))
          obtain ⟨c, hc⟩ : ∃ c, Hid (cmp (dj (j + 1)) (dj j) = c) := ⟨_, Lib.hid rfl⟩
          rw [hc.out] at hC
          have hja' : (a : Int) < (j : Int) + 1 := by omega
          have b0 : (0 : Int) ≤ (j : Int) := by omega
          have b1 : (j : Int) < (n : Int) := by omega
          have b2 : (0 : Int) ≤ (j : Int) + 1 := by omega
          have b3 : (j : Int) + 1 < (n : Int) := by omega
          have b5 : IntKind.i64.wrap (j : Int) = (j : Int) := by simp [IntKind.wrap, IntKind.bits, IntKind.signed]; omega
          have b4 : IntKind.i64.wrap ((j : Int) + 1 - 1) = (j : Int) := by rw [show (j : Int) + 1 - 1 = j by omega]; exact b5
          obtain ⟨x, hX⟩ : ∃ x, Hid (dj (j + 1) = x) := ⟨_, Lib.hid rfl⟩
          obtain ⟨y, hY⟩ : ∃ y, Hid (dj j = y) := ⟨_, Lib.hid rfl⟩
          rw [hX.out, hY.out] at hC
          rw [hX.out] at hx
          rw [hY.out] at hy
          go_upto_region 4 with fail
          go_region_held3 (fun w' => w'.cell? ⟨blk, off + (j + 1), none⟩ = some (.int .i64 x) ∧ w'.cell? ⟨blk, off + j, none⟩ = some (.int .i64 y)) (first | (refine ⟨?_, ?_⟩ <;> assumption) | assumption | exact keepB2 (by assumption) (by assumption)) (first | (go_at_fn g; refine (hC.out _ (HS2.out.drewN E'.out _).k).mono ?_; rintro e w' ⟨rfl, hb⟩))
          have HS3 := Lib.hid ((HS2.out.drew E'.out).pass E'.out hb)
          clear hx hy
          by_cases hc0 : c < 0
          · have hc1 : decide (c < 0) = true := decide_eq_true hc0
            have hx := HS3.out.cell (i := j + 1) (by omega)
            have hy := HS3.out.cell (i := j) (by omega)
            have fx := HS3.out.free (off + (j + 1))
            have fy := HS3.out.free (off + j)
            have hN := HS3.out.swp E'.out (i := j + 1) (j := j) (by omega) (by omega)
            rw [hX.out] at hx hN
            rw [hY.out] at hy hN
            have HN := Lib.hid hN
            have hI2 := HI.out.step O'.out hAj.out (by omega) hja (by rw [show j + 1 - 1 = j by omega, hc.out]; exact hc0)
            rw [show j + 1 - 1 = j by omega] at hI2
            have HI2 := Lib.hid hI2
            clear hN hI2
            go_upto_region 6 with fail
            go_region
            all_goals
              go_wp2_with fail
              go_roundg j
              case measure => omega
              case rel => exact ⟨j, rfl, by go_num, _, HI2, by first | exact HN.out | exact HN.out.drew E'.out | exact HN.out.drewN E'.out _⟩
          · have hc1 : decide (c < 0) = false := decide_eq_false hc0
            have hI2 := HI.out.stop O'.out hAj.out (by omega) (Or.inr (by rw [show j + 1 - 1 = j by omega, hc.out]; exact hc0))
            have HI2 := Lib.hid hI2
            clear hI2
            go_wp2_with fail
            go_roundg (b + 1 - (i + 1))
            case measure => omega
            case rel => exact ⟨i + 1, by omega, by omega, rfl, by go_num, dj, Lib.hid ⟨by rw [show min (i + 1) b = i + 1 by omega]; exact (HE.out.1.wide (Nat.le_refl _) (by omega)).trans HI.out.on, by rw [show min (i + 1) b = i + 1 by omega]; exact HI2.out⟩, HS3.out⟩
        · obtain rfl : j = a := by omega
          have HS2 := Lib.hid hS2
          have hI2 := HI.out.stop O'.out hAj.out (by omega) (Or.inl rfl)
          have HI2 := Lib.hid hI2
          clear hS2 hI2
          go_upto_region 4 with fail
          go_quiet (fail)
          go_wp2_with fail
          go_roundg (b + 1 - (i + 1))
          case measure => omega
          case rel => exact ⟨i + 1, by omega, by omega, rfl, by go_num, dj, Lib.hid ⟨by rw [show min (i + 1) b = i + 1 by omega]; exact (HE.out.1.wide (Nat.le_refl _) (by omega)).trans HI.out.on, by rw [show min (i + 1) b = i + 1 by omega]; exact HI2.out⟩, by first | exact HS2.out | exact HS2.out.drew E'.out | exact HS2.out.drewN E'.out _⟩
    · go_wp2_with fail
      go_end0
      obtain ⟨h1, h2⟩ := HE.out
      rw [show min i b = b by omega] at h1 h2
      exact ⟨rfl, e, h1, h2, hS⟩
end Go.Proofs.Ytnjgkgnjbmfpfaa
