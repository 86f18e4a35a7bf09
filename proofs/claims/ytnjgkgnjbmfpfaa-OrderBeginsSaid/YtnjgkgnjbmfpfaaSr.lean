/- Walks of the symmetric merge where one of the two rows is a single place. -/
import Derived.Test.YtnjgkgnjbmfpfaaSp
import Derived.Shelf.Abstract
import Derived.BigGuard
namespace Go.Proofs.Ytnjgkgnjbmfpfaa
open Go.RowKit

theorem wrap_nat {k : Nat} (h : k ≤ 1000000000) : IntKind.i64.wrap (k : Int) = (k : Int) := by simp [IntKind.wrap, IntKind.bits, IntKind.signed]; omega

set_option maxRecDepth 100000 in
set_option maxHeartbeats 4000000 in
theorem sym_left {g : Nat} {lb : Array Value} {cmp : Int → Int → Int} {Ok : Int → Prop} {pr : Int → Int → Prop} {K : World → Prop} {w0 : World} {B blk off n : Nat} {t : TypeId} (E : Env Try.prog g lb cmp Ok K w0 B blk) (O : Srt.Ord cmp Ok pr) (cap a m b : Nat) (hbn : b ≤ n) (hn : n ≤ 1000000) (d : Nat → Int) (hk : Srt.All Ok n d) (T : Srt.Two pr a m b d) (hm : m = a + 1) (w : World) (h : SS K w0 B blk off n t d w) :
    Calls Try.prog 55 #[.slice (some ⟨blk, off, none⟩) n cap, .int .i64 a, .int .i64 m, .int .i64 b, .func (.func g) #[] lb] w fun e w' => e = .returned (.tuple #[]) ∧ ∃ d', Srt.On a b d d' ∧ Srt.Sd pr a b d' ∧ SS K w0 B blk off n t d' w' := by
  have E' := Lib.hid E
  have O' := Lib.hid O
  have hK := Lib.hid hk
  have hT := Lib.hid T
  have eg := E.eg
  have ham := T.am
  have hmb := T.mb
  clear E O hk T
  have hma : (m : Int) - (a : Int) = 1 := by omega
  have HM := Lib.hid hm
  clear hm
  go_enter Try.func55, Try.ntmps55
  go_wp2_with fail
  go_loopg [10, 11] (b - m) (fun gg s10 s11 wr => ∃ i j : Nat, m ≤ i ∧ i ≤ j ∧ j ≤ b ∧ gg = j - i ∧ s10 = .int .i64 i ∧ s11 = .int .i64 j ∧ Hid ((m < i → pr (d (i - 1)) (d a)) ∧ (j < b → pr (d a) (d j))) ∧ SS K w0 B blk off n t d wr)
  case atStart => exact ⟨m, b, Nat.le_refl _, by omega, Nat.le_refl _, rfl, rfl, rfl, Lib.hid ⟨fun h => by omega, fun h => by omega⟩, h⟩
  case round =>
    obtain ⟨i, j, hmi, hij, hjb, hg, rfl, rfl, HI, hS⟩ := hrel
    clear h
    by_cases hlt : i < j
    · obtain ⟨q, hq2, hq3, hq4⟩ : ∃ q : Nat, ((i : Int) + (j : Int)) / 2 = (q : Int) ∧ i ≤ q ∧ q < j := ⟨(i + j) / 2, by omega, by omega, by omega⟩
      have hx := hS.cell (i := q) (by omega)
      have hy := hS.cell (i := a) (by omega)
      have HS := Lib.hid hS
      clear hS
      have hC : Hid (∀ W, K W → Calls Try.prog g (#[.int .i64 (d q), .int .i64 (d a)] ++ lb) W fun e w' => e = .returned (.int .i64 (cmp (d q) (d a))) ∧ Below W.heap.size W w') := Lib.hid (fun W hW => E'.out.call _ _ W hW (hK.out _ (by omega)) (hK.out _ (by omega)))
      have hsep := hT.out.sep a q (Nat.le_refl _) ham (by omega) (by omega)
      obtain ⟨c, hc⟩ : ∃ c, Hid (cmp (d q) (d a) = c) := ⟨_, Lib.hid rfl⟩
      have hyes : Hid (c < 0 → pr (d q) (d a)) := Lib.hid (fun h => (O'.out.tst _ _ (hK.out _ (by omega)) (hK.out _ (by omega)) hsep).1 (by rw [hc.out]; exact h))
      have hno : Hid (¬ c < 0 → pr (d a) (d q)) := Lib.hid (fun h => Srt.tst_no O'.out (hK.out _ (by omega)) (hK.out _ (by omega)) hsep (by rw [hc.out]; exact h))
      rw [hc.out] at hC
      obtain ⟨x, hX⟩ : ∃ x, Hid (d q = x) := ⟨_, Lib.hid rfl⟩
      obtain ⟨y, hY⟩ : ∃ y, Hid (d a = y) := ⟨_, Lib.hid rfl⟩
      rw [hX.out, hY.out] at hC
      rw [hX.out] at hx
      rw [hY.out] at hy
      clear hsep
      have b0 : (0 : Int) ≤ (q : Int) := by omega
      have b1 : (q : Int) < (n : Int) := by omega
      have b2 : (0 : Int) ≤ (a : Int) := by omega
      have b3 : (a : Int) < (n : Int) := by omega
      go_upto_region 5 with fail
      go_region_held3 (fun w' => w'.cell? ⟨blk, off + q, none⟩ = some (.int .i64 x) ∧ w'.cell? ⟨blk, off + a, none⟩ = some (.int .i64 y)) (first | (refine ⟨?_, ?_⟩ <;> assumption) | assumption | exact keepB2 (by assumption) (by assumption)) (first | (go_at_fn g; refine (hC.out _ (HS.out.drewN E'.out _).k).mono ?_; rintro e w' ⟨rfl, hb⟩))
      have HS3 := Lib.hid ((HS.out.drew E'.out).pass E'.out hb)
      clear hx hy
      by_cases hc0 : c < 0
      · have hc1 : decide (c < 0) = true := decide_eq_true hc0
        go_wp2_with fail
        go_roundg (j - (q + 1))
        case measure => omega
        case rel => exact ⟨q + 1, j, by omega, by omega, hjb, rfl, by go_num, rfl, Lib.hid ⟨fun _ => hyes.out hc0, HI.out.2⟩, HS3.out⟩
      · have hc1 : decide (c < 0) = false := decide_eq_false hc0
        go_wp2_with fail
        go_roundg (q - i)
        case measure => omega
        case rel => exact ⟨i, q, hmi, by omega, by omega, rfl, rfl, rfl, Lib.hid ⟨HI.out.1, fun _ => hno.out hc0⟩, HS3.out⟩
    · obtain rfl : i = j := by omega
      have HF : Hid (Srt.Sd pr a b (Srt.rot a m i d)) := Lib.hid (Srt.single_left O'.out hK.out hbn HM.out hmi hjb hT.out.r HI.out.1 HI.out.2)
      have HN : Hid (Srt.On a b d (Srt.rot a m i d)) := Lib.hid ((Srt.On.rot d (by omega) hmi).wide (Nat.le_refl _) hjb)
      clear HI
      go_wp2_with fail
      go_loopg [13] (i - 1 - a) (fun gg s13 wr2 => ∃ k : Nat, a ≤ k ∧ k ≤ i - 1 ∧ gg = i - 1 - k ∧ s13 = .int .i64 k ∧ SS K w0 B blk off n t (Srt.rot a m (k + 1) d) wr2)
      case atStart => exact ⟨a, Nat.le_refl _, by omega, rfl, rfl, by rw [← HM.out, Srt.rot_none_right]; exact hS⟩
      case round =>
        obtain ⟨k, hak, hki, hg2, rfl, hS2⟩ := hrel
        clear hS
        by_cases hlt2 : k < i - 1
        · have hx := hS2.cell (i := k) (by omega)
          have hy := hS2.cell (i := k + 1) (by omega)
          have fx := hS2.free (off + k)
          have fy := hS2.free (off + (k + 1))
          have hN := hS2.swp E'.out (i := k) (j := k + 1) (by omega) (by omega)
          rw [Srt.rot_left HM.out hak] at hN
          have HN2 := Lib.hid hN
          clear hN hS2
          generalize Srt.rot a m (k + 1) d k = x at *
          generalize Srt.rot a m (k + 1) d (k + 1) = y at *
          have hlt3 : (k : Int) < (i : Int) - 1 := by omega
          go_upto_region 11 with fail
          go_region
          all_goals
            go_wp2_with fail
            go_roundg (i - 1 - (k + 1))
            case measure => omega
            case rel => exact ⟨k + 1, by omega, by omega, rfl, by go_num, by first | exact HN2.out | exact HN2.out.drew E'.out | exact HN2.out.drewN E'.out _⟩
        · have e : k + 1 = i := by omega
          rw [e] at hS2
          have hlt3 : ¬ (k : Int) < (i : Int) - 1 := by omega
          go_wp2_with fail
          refine bodyPost_ret (results_none rfl _ _ _) rfl ?_
          exact ⟨rfl, _, HN.out, HF.out, hS2⟩
end Go.Proofs.Ytnjgkgnjbmfpfaa
