/- Walk of the symmetric merge where the right row is a single place. -/
import Derived.Test.YtnjgkgnjbmfpfaaSr
namespace Go.Proofs.Ytnjgkgnjbmfpfaa
open Go.RowKit

set_option maxRecDepth 100000 in
set_option maxHeartbeats 4000000 in
theorem sym_right {g : Nat} {lb : Array Value} {cmp : Int → Int → Int} {Ok : Int → Prop} {pr : Int → Int → Prop} {K : World → Prop} {w0 : World} {B blk off n : Nat} {t : TypeId} (E : Env Try.prog g lb cmp Ok K w0 B blk) (O : Srt.Ord cmp Ok pr) (cap a m b : Nat) (hbn : b ≤ n) (hn : n ≤ 1000000) (d : Nat → Int) (hk : Srt.All Ok n d) (T : Srt.Two pr a m b d) (hna : m ≠ a + 1) (hm : b = m + 1) (w : World) (h : SS K w0 B blk off n t d w) :
    Calls Try.prog 55 #[.slice (some ⟨blk, off, none⟩) n cap, .int .i64 a, .int .i64 m, .int .i64 b, .func (.func g) #[] lb] w fun e w' => e = .returned (.tuple #[]) ∧ ∃ d', Srt.On a b d d' ∧ Srt.Sd pr a b d' ∧ SS K w0 B blk off n t d' w' := by
  have E' := Lib.hid E
  have O' := Lib.hid O
  have hK := Lib.hid hk
  have hT := Lib.hid T
  have eg := E.eg
  have ham := T.am
  have hmb := T.mb
  clear E O hk T
  have hma : ((m : Int) - (a : Int) == 1) = false := by simp; omega
  have hmb1 : (b : Int) - (m : Int) = 1 := by omega
  have HM := Lib.hid hm
  clear hm hna
  go_enter Try.func55, Try.ntmps55
  go_wp2_with fail
  go_loopg [14, 15] (m - a) (fun gg s14 s15 wr => ∃ i j : Nat, a ≤ i ∧ i ≤ j ∧ j ≤ m ∧ gg = j - i ∧ s14 = .int .i64 i ∧ s15 = .int .i64 j ∧ Hid ((a < i → pr (d (i - 1)) (d m)) ∧ (j < m → pr (d m) (d j))) ∧ SS K w0 B blk off n t d wr)
  case atStart => exact ⟨a, m, Nat.le_refl _, by omega, Nat.le_refl _, rfl, rfl, rfl, Lib.hid ⟨fun h => by omega, fun h => by omega⟩, h⟩
  case round =>
    obtain ⟨i, j, hmi, hij, hjb, hg, rfl, rfl, HI, hS⟩ := hrel
    clear h
    by_cases hlt : i < j
    · obtain ⟨q, hq2, hq3, hq4⟩ : ∃ q : Nat, ((i : Int) + (j : Int)) / 2 = (q : Int) ∧ i ≤ q ∧ q < j := ⟨(i + j) / 2, by omega, by omega, by omega⟩
      have hx := hS.cell (i := m) (by omega)
      have hy := hS.cell (i := q) (by omega)
      have HS := Lib.hid hS
      clear hS
      have hC : Hid (∀ W, K W → Calls Try.prog g (#[.int .i64 (d m), .int .i64 (d q)] ++ lb) W fun e w' => e = .returned (.int .i64 (cmp (d m) (d q))) ∧ Below W.heap.size W w') := Lib.hid (fun W hW => E'.out.call _ _ W hW (hK.out _ (by omega)) (hK.out _ (by omega)))
      have hsep := hT.out.sep q m (by omega) (by omega) (Nat.le_refl _) hmb
      obtain ⟨c, hc⟩ : ∃ c, Hid (cmp (d m) (d q) = c) := ⟨_, Lib.hid rfl⟩
      have hyes : Hid (c < 0 → pr (d m) (d q)) := Lib.hid (fun h => (O'.out.tst _ _ (hK.out _ (by omega)) (hK.out _ (by omega)) hsep).1 (by rw [hc.out]; exact h))
      have hno : Hid (¬ c < 0 → pr (d q) (d m)) := Lib.hid (fun h => Srt.tst_no O'.out (hK.out _ (by omega)) (hK.out _ (by omega)) hsep (by rw [hc.out]; exact h))
      rw [hc.out] at hC
      obtain ⟨x, hX⟩ : ∃ x, Hid (d m = x) := ⟨_, Lib.hid rfl⟩
      obtain ⟨y, hY⟩ : ∃ y, Hid (d q = y) := ⟨_, Lib.hid rfl⟩
      rw [hX.out, hY.out] at hC
      rw [hX.out] at hx
      rw [hY.out] at hy
      clear hsep
      have b0 : (0 : Int) ≤ (q : Int) := by omega
      have b1 : (q : Int) < (n : Int) := by omega
      have b2 : (0 : Int) ≤ (m : Int) := by omega
      have b3 : (m : Int) < (n : Int) := by omega
      go_upto_region 17 with fail
      go_region_held3 (fun w' => w'.cell? ⟨blk, off + m, none⟩ = some (.int .i64 x) ∧ w'.cell? ⟨blk, off + q, none⟩ = some (.int .i64 y)) (first | (refine ⟨?_, ?_⟩ <;> assumption) | assumption | exact keepB2 (by assumption) (by assumption)) (first | (go_at_fn g; refine (hC.out _ (HS.out.drewN E'.out _).k).mono ?_; rintro e w' ⟨rfl, hb⟩))
      have HS3 := Lib.hid ((HS.out.drew E'.out).pass E'.out hb)
      clear hx hy
      by_cases hc0 : c < 0
      · go_wp2_with fail
        · have hh := ‹(!decide (c < 0)) = true›
          exfalso; simp at hh; omega
        · go_roundg (q - i)
          case measure => omega
          case rel => exact ⟨i, q, hmi, by omega, by omega, rfl, rfl, rfl, Lib.hid ⟨HI.out.1, fun _ => hyes.out hc0⟩, HS3.out⟩
      · go_wp2_with fail
        · go_roundg (j - (q + 1))
          case measure => omega
          case rel => exact ⟨q + 1, j, by omega, by omega, hjb, rfl, by go_num, rfl, Lib.hid ⟨fun _ => hno.out hc0, HI.out.2⟩, HS3.out⟩
        · have hh := ‹(!decide (c < 0)) = false›
          exfalso; simp at hh; omega
    · obtain rfl : i = j := by omega
      have HF : Hid (Srt.Sd pr a b (Srt.rot i m b d)) := Lib.hid (Srt.single_right O'.out hK.out hbn HM.out hmi hjb hT.out.l HI.out.1 HI.out.2)
      have HN : Hid (Srt.On a b d (Srt.rot i m b d)) := Lib.hid ((Srt.On.rot d hjb (by omega)).wide hmi (Nat.le_refl _))
      clear HI
      go_wp2_with fail
      go_loopg [17] (m - i) (fun gg s17 wr2 => ∃ k : Nat, i ≤ k ∧ k ≤ m ∧ gg = k - i ∧ s17 = .int .i64 k ∧ SS K w0 B blk off n t (Srt.rot k m (m + 1) d) wr2)
      case atStart => exact ⟨m, hjb, Nat.le_refl _, rfl, rfl, by rw [Srt.rot_none_left]; exact hS⟩
      case round =>
        obtain ⟨k, hik, hkm, hg2, rfl, hS2⟩ := hrel
        clear hS
        by_cases hlt2 : i < k
        · obtain ⟨k, rfl⟩ : ∃ l, k = l + 1 := ⟨k - 1, by omega⟩
          have hx := hS2.cell (i := k + 1) (by omega)
          have hy := hS2.cell (i := k) (by omega)
          have fx := hS2.free (off + (k + 1))
          have fy := hS2.free (off + k)
          have hN := hS2.swp E'.out (i := k + 1) (j := k) (by omega) (by omega)
          have hr := Srt.rot_right (k := k + 1) (m := m) (by omega) hkm d
          rw [show k + 1 - 1 = k by omega] at hr
          rw [hr] at hN
          have HN2 := Lib.hid hN
          clear hN hS2 hr
          generalize Srt.rot (k + 1) m (m + 1) d (k + 1) = x at *
          generalize Srt.rot (k + 1) m (m + 1) d k = y at *
          have hlt3 : (i : Int) < (k : Int) + 1 := by omega
          have b0 : (0 : Int) ≤ (k : Int) := by omega
          have b1 : (k : Int) < (n : Int) := by omega
          have b2 : (0 : Int) ≤ (k : Int) + 1 := by omega
          have b3 : (k : Int) + 1 < (n : Int) := by omega
          have b5 : IntKind.i64.wrap (k : Int) = (k : Int) := wrap_nat (by omega)
          go_upto_region 23 with fail
          go_region
          all_goals
            go_wp2_with fail
            go_roundg (k - i)
            case measure => omega
            case rel => exact ⟨k, by omega, by omega, rfl, by go_num, by first | exact HN2.out | exact HN2.out.drew E'.out | exact HN2.out.drewN E'.out _⟩
        · have e : k = i := by omega
          have e2 := HM.out
          rw [e, ← e2] at hS2
          clear e2
          have hlt3 : ¬ (i : Int) < (k : Int) := by omega
          go_wp2_with fail
          refine bodyPost_ret (results_none rfl _ _ _) rfl ?_
          exact ⟨rfl, _, HN.out, HF.out, hS2⟩
end Go.Proofs.Ytnjgkgnjbmfpfaa
