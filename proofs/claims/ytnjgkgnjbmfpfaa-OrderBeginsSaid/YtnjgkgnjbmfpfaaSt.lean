/- Walk of the symmetric merge: the main way, and the whole. -/
import Derived.Test.YtnjgkgnjbmfpfaaSs
namespace Go.Proofs.Ytnjgkgnjbmfpfaa
open Go.RowKit

theorem Srt.Two.keep {pr : Int → Int → Prop} {a mid m b : Nat} {d d' : Nat → Int} (h : Srt.Two pr mid m b d) (he : ∀ i, (i < a ∨ mid ≤ i) → d' i = d i) : Srt.Two pr mid m b d' := by
  have mb := h.mb
  have am := h.am
  refine ⟨h.am, h.mb, h.l.of_eq fun i h1 _ => he i (Or.inr h1), h.r.of_eq fun i h1 _ => he i (Or.inr (by omega)), fun p q h1 h2 h3 h4 => ?_⟩
  rw [he p (Or.inr h1), he q (Or.inr (by omega))]
  exact h.sep p q h1 h2 h3 h4

set_option maxRecDepth 100000 in
set_option maxHeartbeats 8000000 in
theorem sym_main {g : Nat} {lb : Array Value} {cmp : Int → Int → Int} {Ok : Int → Prop} {pr : Int → Int → Prop} {K : World → Prop} {w0 : World} {B blk off n : Nat} {t : TypeId} (E : Env Try.prog g lb cmp Ok K w0 B blk) (O : Srt.Ord cmp Ok pr) (cap a m b : Nat) (hbn : b ≤ n) (hn : n ≤ 1000000) (d : Nat → Int) (hk : Srt.All Ok n d) (T : Srt.Two pr a m b d) (h1 : m ≠ a + 1) (h2 : b ≠ m + 1)
    (IH : ∀ a' m' b' : Nat, b' - a' < b - a → b' ≤ n → ∀ (d' : Nat → Int) (w' : World), Srt.All Ok n d' → Srt.Two pr a' m' b' d' → SS K w0 B blk off n t d' w' → Calls Try.prog 55 #[.slice (some ⟨blk, off, none⟩) n cap, .int .i64 a', .int .i64 m', .int .i64 b', .func (.func g) #[] lb] w' fun e w' => e = .returned (.tuple #[]) ∧ ∃ d'', Srt.On a' b' d' d'' ∧ Srt.Sd pr a' b' d'' ∧ SS K w0 B blk off n t d'' w')
    (mid nn p lo hi : Nat) (hmid : mid = (a + b) / 2) (hnn : nn = mid + m) (hp : p + 1 = nn) (hlo : (mid < m ∧ lo = mid + m - b ∧ hi = mid) ∨ (m ≤ mid ∧ lo = a ∧ hi = m)) (w : World) (h : SS K w0 B blk off n t d w) :
    Calls Try.prog 55 #[.slice (some ⟨blk, off, none⟩) n cap, .int .i64 a, .int .i64 m, .int .i64 b, .func (.func g) #[] lb] w fun e w' => e = .returned (.tuple #[]) ∧ ∃ d', Srt.On a b d d' ∧ Srt.Sd pr a b d' ∧ SS K w0 B blk off n t d' w' := by
  have E' := Lib.hid E
  have O' := Lib.hid O
  have hK := Lib.hid hk
  have hT := Lib.hid T
  have IH := Lib.hid IH
  have eg := E.eg
  have ham := T.am
  have hmb := T.mb
  have HMID := Lib.hid hmid
  have HLO := Lib.hid hlo
  clear E O hk T
  have hm1 : ((m : Int) - (a : Int) == 1) = false := by simp; omega
  have hm2 : ((b : Int) - (m : Int) == 1) = false := by simp; omega
  have hmid2 : ((a : Int) + (b : Int)) / 2 = (mid : Int) := by omega
  have hnn2 : (mid : Int) + (m : Int) = (nn : Int) := by omega
  have hp2 : (nn : Int) - 1 = (p : Int) := by omega
  have hma : 2 * mid ≤ a + b := by omega
  have hmb2 : a + b ≤ 2 * mid + 1 := by omega
  have hlohi : lo ≤ hi := by omega
  have halo : a ≤ lo := by omega
  have hhim : hi ≤ m := by omega
  have hplo : p < b + lo := by omega
  have hphi : m + hi ≤ p + 1 := by omega
  have hpn : p = mid + m - 1 := by omega
  have HPN := Lib.hid hpn
  have HNN := Lib.hid hnn
  clear hpn hnn hmid h1 h2
  rcases hlo with ⟨hgt, hlo2, hh⟩ | ⟨hgt, hh1, hh2⟩
  · obtain rfl := hh.symm
    have hnn3 : nn < 2000001 := by omega
    have hlo3 : (nn : Int) - (b : Int) = (lo : Int) := by have := HNN.out; omega
    have HLO2 := Lib.hid hlo2
    clear hlo2
    go_enter Try.func55, Try.ntmps55
    go_wp2_with fail
    go_loopg [20, 21] (mid - lo) (fun gg s20 s21 wr => ∃ i j : Nat, lo ≤ i ∧ i ≤ j ∧ j ≤ mid ∧ gg = j - i ∧ s20 = .int .i64 i ∧ s21 = .int .i64 j ∧ Hid ((lo < i → ¬ cmp (d (mid + m - 1 - (i - 1))) (d (i - 1)) < 0) ∧ (j < mid → cmp (d (mid + m - 1 - j)) (d j) < 0)) ∧ SS K w0 B blk off n t d wr)
    case atStart => exact ⟨lo, mid, Nat.le_refl _, hlohi, Nat.le_refl _, rfl, rfl, rfl, Lib.hid ⟨fun h => by omega, fun h => by omega⟩, h⟩
    case round =>
      obtain ⟨i, j, hli, hij, hjh, hg, rfl, rfl, HI_, hS⟩ := hrel
      clear h
      by_cases hlt : i < j
      · obtain ⟨q, hq2, hq3, hq4⟩ : ∃ q : Nat, ((i : Int) + (j : Int)) / 2 = (q : Int) ∧ i ≤ q ∧ q < j := ⟨(i + j) / 2, by omega, by omega, by omega⟩
        obtain ⟨u, hu2, hu3⟩ : ∃ u : Nat, (p : Int) - (q : Int) = (u : Int) ∧ Hid (u = mid + m - 1 - q) := ⟨p - q, by omega, Lib.hid (by rw [HPN.out])⟩
        have hx := hS.cell (i := u) (by omega)
        have hy := hS.cell (i := q) (by omega)
        have HS := Lib.hid hS
        clear hS
        have hC : Hid (∀ W, K W → Calls Try.prog g (#[.int .i64 (d u), .int .i64 (d q)] ++ lb) W fun e w' => e = .returned (.int .i64 (cmp (d u) (d q))) ∧ Below W.heap.size W w') := Lib.hid (fun W hW => E'.out.call _ _ W hW (hK.out _ (by omega)) (hK.out _ (by omega)))
        obtain ⟨c, hc⟩ : ∃ c, Hid (cmp (d u) (d q) = c) := ⟨_, Lib.hid rfl⟩
        rw [hc.out] at hC
        have hcc : Hid (cmp (d (mid + m - 1 - q)) (d q) = c) := Lib.hid (by rw [← hu3.out]; exact hc.out)
        obtain ⟨x, hX⟩ : ∃ x, Hid (d u = x) := ⟨_, Lib.hid rfl⟩
        obtain ⟨y, hY⟩ : ∃ y, Hid (d q = y) := ⟨_, Lib.hid rfl⟩
        rw [hX.out, hY.out] at hC
        rw [hX.out] at hx
        rw [hY.out] at hy
        have b0 : (0 : Int) ≤ (q : Int) := by omega
        have b1 : (q : Int) < (n : Int) := by omega
        have b2 : (0 : Int) ≤ (u : Int) := by omega
        have b3 : (u : Int) < (n : Int) := by omega
        have b5 : IntKind.i64.wrap (u : Int) = (u : Int) := wrap_nat (by omega)
        go_upto_region 35 with fail
        go_region_held3 (fun w' => w'.cell? ⟨blk, off + u, none⟩ = some (.int .i64 x) ∧ w'.cell? ⟨blk, off + q, none⟩ = some (.int .i64 y)) (first | (refine ⟨?_, ?_⟩ <;> assumption) | assumption | exact keepB2 (by assumption) (by assumption)) (first | (go_at_fn g; refine (hC.out _ (HS.out.drewN E'.out _).k).mono ?_; rintro e w' ⟨rfl, hb⟩))
        have HS3 := Lib.hid ((HS.out.drew E'.out).pass E'.out hb)
        clear hx hy
        by_cases hc0 : c < 0
        · go_wp2_with fail
          · have hh := ‹(!decide (c < 0)) = true›
            exfalso; simp at hh; omega
          · go_roundg (q - i)
            case measure => omega
            case rel => exact ⟨i, q, hli, by omega, by omega, rfl, rfl, rfl, Lib.hid ⟨HI_.out.1, fun _ => by rw [hcc.out]; exact hc0⟩, HS3.out⟩
        · go_wp2_with fail
          · go_roundg (j - (q + 1))
            case measure => omega
            case rel => exact ⟨q + 1, j, by omega, by omega, hjh, rfl, by go_num, rfl, Lib.hid ⟨fun _ => by rw [show q + 1 - 1 = q by omega, hcc.out]; exact hc0, HI_.out.2⟩, HS3.out⟩
          · have hh := ‹(!decide (c < 0)) = false›
            exfalso; simp at hh; omega
      · obtain rfl : i = j := by omega
        have hcut := Lib.hid (Srt.cut_of O'.out hK.out hbn hT.out HMID.out (by simpa using HLO.out) hli hjh HI_.out.1 HI_.out.2)
        obtain ⟨e, he2, he3⟩ : ∃ e : Nat, (nn : Int) - (i : Int) = (e : Int) ∧ Hid (mid + m - i = e) := ⟨mid + m - i, by have := HNN.out; omega, Lib.hid rfl⟩
        rw [he3.out] at hcut
        have hme := hcut.out.me
        have heb := hcut.out.eb
        have hsm := hcut.out.sm
        have has := hcut.out.as_
        have hmds := hcut.out.mids
        have hme2 := hcut.out.mid_
        have hme3 : mid ≤ e := by omega
        have hme4 : mid < b := by omega
        have HME2 := Lib.hid hme2
        clear hme2
        have fin := Lib.hid (fun d2 d3 => Srt.Cut.join (d2 := d2) (d3 := d3) O'.out hK.out hbn hT.out hcut.out)
        have hk1 := Lib.hid ((Srt.On.rot d hsm hme).all (by omega) hK.out)
        by_cases hr : i < m ∧ m < e
        · have hra := hr.1
          have hrb := hr.2
          have HRo := Lib.hid (rotate_any E'.out (.func (.func g) #[] lb) cap i m e hra hrb (by omega) hn d wr hS)
          clear hS
          go_wp2_with fail
          refine HRo.out.mono ?_
          rintro e1 w1 ⟨rfl, hS1⟩
          by_cases hl : a < i ∧ i < mid
          · have hl1 := hl.1
            have hl2 := hl.2
            have hL := IH.out a i mid (by omega) (by omega) _ _ hk1.out (hcut.out.left hT.out hl1 hl2) hS1
            have HL := Lib.hid hL
            clear hL hS1
            go_wp2_with fail
            all_goals
              refine HL.out.mono ?_
              rintro e1 w2 ⟨rfl, d2, hon2', hsd2', hS2⟩
              have hon2 := Lib.hid hon2'
              have hsd2 := Lib.hid hsd2'
              clear hon2' hsd2'
              by_cases hr2 : mid < e ∧ e < b
              · have hr3 := hr2.1
                have hr4 := hr2.2
                have hR := IH.out mid e b (by omega) hbn _ _ (hon2.out.all (by omega) hk1.out) (((hcut.out.right hT.out hr3 hr4)).keep hon2.out.1) hS2
                have HRt := Lib.hid hR
                clear hR hS2
                go_wp2_with fail
                all_goals
                  refine HRt.out.mono ?_
                  rintro e1 w3 ⟨rfl, d3, hon3, hsd3, hS3⟩
                  go_wp2_with fail
                  go_end0
                  exact ⟨rfl, d3, (fin.out _ _ hon2.out hsd2.out hon3 hsd3).1, (fin.out _ _ hon2.out hsd2.out hon3 hsd3).2, hS3⟩
              · have hsd3 := Lib.hid ((hcut.out.right_done hT.out hr2).of_eq fun i h1 _ => hon2.out.1 i (Or.inr h1))
                go_wp2_with fail
                all_goals
                  go_end0
                  exact ⟨rfl, _, (fin.out _ _ hon2.out hsd2.out (Srt.On.refl _ _ _) hsd3.out).1, (fin.out _ _ hon2.out hsd2.out (Srt.On.refl _ _ _) hsd3.out).2, hS2⟩
          · have hon2 := Lib.hid (Srt.On.refl a mid (Srt.rot i m e d))
            have hsd2 := Lib.hid (hcut.out.left_done hT.out hl)
            have hS2 := hS1
            clear hS1
            by_cases hr2 : mid < e ∧ e < b
            · have hr3 := hr2.1
              have hr4 := hr2.2
              have hR := IH.out mid e b (by omega) hbn _ _ (hon2.out.all (by omega) hk1.out) (((hcut.out.right hT.out hr3 hr4)).keep hon2.out.1) hS2
              have HRt := Lib.hid hR
              clear hR hS2
              go_wp2_with fail
              all_goals
                refine HRt.out.mono ?_
                rintro e1 w3 ⟨rfl, d3, hon3, hsd3, hS3⟩
                go_wp2_with fail
                go_end0
                exact ⟨rfl, d3, (fin.out _ _ hon2.out hsd2.out hon3 hsd3).1, (fin.out _ _ hon2.out hsd2.out hon3 hsd3).2, hS3⟩
            · have hsd3 := Lib.hid ((hcut.out.right_done hT.out hr2).of_eq fun i h1 _ => hon2.out.1 i (Or.inr h1))
              go_wp2_with fail
              all_goals
                go_end0
                exact ⟨rfl, _, (fin.out _ _ hon2.out hsd2.out (Srt.On.refl _ _ _) hsd3.out).1, (fin.out _ _ hon2.out hsd2.out (Srt.On.refl _ _ _) hsd3.out).2, hS2⟩
        · have hd1 : Srt.rot i m e d = d := by
            by_cases x : i = m
            · rw [x]; exact Srt.rot_none_left _ _ _
            · have y : m = e := by omega
              rw [← y]; exact Srt.rot_none_right _ _ _
          have hS1 : SS K w0 B blk off n t (Srt.rot i m e d) wr := by rw [hd1]; exact hS
          clear hS hd1
          by_cases hl : a < i ∧ i < mid
          · have hl1 := hl.1
            have hl2 := hl.2
            have hL := IH.out a i mid (by omega) (by omega) _ _ hk1.out (hcut.out.left hT.out hl1 hl2) hS1
            have HL := Lib.hid hL
            clear hL hS1
            go_wp2_with fail
            all_goals
              refine HL.out.mono ?_
              rintro e1 w2 ⟨rfl, d2, hon2', hsd2', hS2⟩
              have hon2 := Lib.hid hon2'
              have hsd2 := Lib.hid hsd2'
              clear hon2' hsd2'
              by_cases hr2 : mid < e ∧ e < b
              · have hr3 := hr2.1
                have hr4 := hr2.2
                have hR := IH.out mid e b (by omega) hbn _ _ (hon2.out.all (by omega) hk1.out) (((hcut.out.right hT.out hr3 hr4)).keep hon2.out.1) hS2
                have HRt := Lib.hid hR
                clear hR hS2
                go_wp2_with fail
                all_goals
                  refine HRt.out.mono ?_
                  rintro e1 w3 ⟨rfl, d3, hon3, hsd3, hS3⟩
                  go_wp2_with fail
                  go_end0
                  exact ⟨rfl, d3, (fin.out _ _ hon2.out hsd2.out hon3 hsd3).1, (fin.out _ _ hon2.out hsd2.out hon3 hsd3).2, hS3⟩
              · have hsd3 := Lib.hid ((hcut.out.right_done hT.out hr2).of_eq fun i h1 _ => hon2.out.1 i (Or.inr h1))
                go_wp2_with fail
                all_goals
                  go_end0
                  exact ⟨rfl, _, (fin.out _ _ hon2.out hsd2.out (Srt.On.refl _ _ _) hsd3.out).1, (fin.out _ _ hon2.out hsd2.out (Srt.On.refl _ _ _) hsd3.out).2, hS2⟩
          · have hon2 := Lib.hid (Srt.On.refl a mid (Srt.rot i m e d))
            have hsd2 := Lib.hid (hcut.out.left_done hT.out hl)
            have hS2 := hS1
            clear hS1
            by_cases hr2 : mid < e ∧ e < b
            · have hr3 := hr2.1
              have hr4 := hr2.2
              have hR := IH.out mid e b (by omega) hbn _ _ (hon2.out.all (by omega) hk1.out) (((hcut.out.right hT.out hr3 hr4)).keep hon2.out.1) hS2
              have HRt := Lib.hid hR
              clear hR hS2
              go_wp2_with fail
              all_goals
                refine HRt.out.mono ?_
                rintro e1 w3 ⟨rfl, d3, hon3, hsd3, hS3⟩
                go_wp2_with fail
                go_end0
                exact ⟨rfl, d3, (fin.out _ _ hon2.out hsd2.out hon3 hsd3).1, (fin.out _ _ hon2.out hsd2.out hon3 hsd3).2, hS3⟩
            · have hsd3 := Lib.hid ((hcut.out.right_done hT.out hr2).of_eq fun i h1 _ => hon2.out.1 i (Or.inr h1))
              go_wp2_with fail
              all_goals
                go_end0
                exact ⟨rfl, _, (fin.out _ _ hon2.out hsd2.out (Srt.On.refl _ _ _) hsd3.out).1, (fin.out _ _ hon2.out hsd2.out (Srt.On.refl _ _ _) hsd3.out).2, hS2⟩
  · obtain rfl := hh1.symm
    obtain rfl := hh2.symm
    have hnn3 : nn < 2000001 := by omega
    have hgt2 : ¬ (mid : Int) < (m : Int) := by omega
    go_enter Try.func55, Try.ntmps55
    go_wp2_with fail
    go_loopg [20, 21] (m - a) (fun gg s20 s21 wr => ∃ i j : Nat, a ≤ i ∧ i ≤ j ∧ j ≤ m ∧ gg = j - i ∧ s20 = .int .i64 i ∧ s21 = .int .i64 j ∧ Hid ((a < i → ¬ cmp (d (mid + m - 1 - (i - 1))) (d (i - 1)) < 0) ∧ (j < m → cmp (d (mid + m - 1 - j)) (d j) < 0)) ∧ SS K w0 B blk off n t d wr)
    case atStart => exact ⟨a, m, Nat.le_refl _, hlohi, Nat.le_refl _, rfl, rfl, rfl, Lib.hid ⟨fun h => by omega, fun h => by omega⟩, h⟩
    case round =>
      obtain ⟨i, j, hli, hij, hjh, hg, rfl, rfl, HI_, hS⟩ := hrel
      clear h
      by_cases hlt : i < j
      · obtain ⟨q, hq2, hq3, hq4⟩ : ∃ q : Nat, ((i : Int) + (j : Int)) / 2 = (q : Int) ∧ i ≤ q ∧ q < j := ⟨(i + j) / 2, by omega, by omega, by omega⟩
        obtain ⟨u, hu2, hu3⟩ : ∃ u : Nat, (p : Int) - (q : Int) = (u : Int) ∧ Hid (u = mid + m - 1 - q) := ⟨p - q, by omega, Lib.hid (by rw [HPN.out])⟩
        have hx := hS.cell (i := u) (by omega)
        have hy := hS.cell (i := q) (by omega)
        have HS := Lib.hid hS
        clear hS
        have hC : Hid (∀ W, K W → Calls Try.prog g (#[.int .i64 (d u), .int .i64 (d q)] ++ lb) W fun e w' => e = .returned (.int .i64 (cmp (d u) (d q))) ∧ Below W.heap.size W w') := Lib.hid (fun W hW => E'.out.call _ _ W hW (hK.out _ (by omega)) (hK.out _ (by omega)))
        obtain ⟨c, hc⟩ : ∃ c, Hid (cmp (d u) (d q) = c) := ⟨_, Lib.hid rfl⟩
        rw [hc.out] at hC
        have hcc : Hid (cmp (d (mid + m - 1 - q)) (d q) = c) := Lib.hid (by rw [← hu3.out]; exact hc.out)
        obtain ⟨x, hX⟩ : ∃ x, Hid (d u = x) := ⟨_, Lib.hid rfl⟩
        obtain ⟨y, hY⟩ : ∃ y, Hid (d q = y) := ⟨_, Lib.hid rfl⟩
        rw [hX.out, hY.out] at hC
        rw [hX.out] at hx
        rw [hY.out] at hy
        have b0 : (0 : Int) ≤ (q : Int) := by omega
        have b1 : (q : Int) < (n : Int) := by omega
        have b2 : (0 : Int) ≤ (u : Int) := by omega
        have b3 : (u : Int) < (n : Int) := by omega
        have b5 : IntKind.i64.wrap (u : Int) = (u : Int) := wrap_nat (by omega)
        go_upto_region 35 with fail
        go_region_held3 (fun w' => w'.cell? ⟨blk, off + u, none⟩ = some (.int .i64 x) ∧ w'.cell? ⟨blk, off + q, none⟩ = some (.int .i64 y)) (first | (refine ⟨?_, ?_⟩ <;> assumption) | assumption | exact keepB2 (by assumption) (by assumption)) (first | (go_at_fn g; refine (hC.out _ (HS.out.drewN E'.out _).k).mono ?_; rintro e w' ⟨rfl, hb⟩))
        have HS3 := Lib.hid ((HS.out.drew E'.out).pass E'.out hb)
        clear hx hy
        by_cases hc0 : c < 0
        · go_wp2_with fail
          · have hh := ‹(!decide (c < 0)) = true›
            exfalso; simp at hh; omega
          · go_roundg (q - i)
            case measure => omega
            case rel => exact ⟨i, q, hli, by omega, by omega, rfl, rfl, rfl, Lib.hid ⟨HI_.out.1, fun _ => by rw [hcc.out]; exact hc0⟩, HS3.out⟩
        · go_wp2_with fail
          · go_roundg (j - (q + 1))
            case measure => omega
            case rel => exact ⟨q + 1, j, by omega, by omega, hjh, rfl, by go_num, rfl, Lib.hid ⟨fun _ => by rw [show q + 1 - 1 = q by omega, hcc.out]; exact hc0, HI_.out.2⟩, HS3.out⟩
          · have hh := ‹(!decide (c < 0)) = false›
            exfalso; simp at hh; omega
      · obtain rfl : i = j := by omega
        have hcut := Lib.hid (Srt.cut_of O'.out hK.out hbn hT.out HMID.out (by simpa using HLO.out) hli hjh HI_.out.1 HI_.out.2)
        obtain ⟨e, he2, he3⟩ : ∃ e : Nat, (nn : Int) - (i : Int) = (e : Int) ∧ Hid (mid + m - i = e) := ⟨mid + m - i, by have := HNN.out; omega, Lib.hid rfl⟩
        rw [he3.out] at hcut
        have hme := hcut.out.me
        have heb := hcut.out.eb
        have hsm := hcut.out.sm
        have has := hcut.out.as_
        have hmds := hcut.out.mids
        have hme2 := hcut.out.mid_
        have hme3 : mid ≤ e := by omega
        have hme4 : mid < b := by omega
        have HME2 := Lib.hid hme2
        clear hme2
        have fin := Lib.hid (fun d2 d3 => Srt.Cut.join (d2 := d2) (d3 := d3) O'.out hK.out hbn hT.out hcut.out)
        have hk1 := Lib.hid ((Srt.On.rot d hsm hme).all (by omega) hK.out)
        by_cases hr : i < m ∧ m < e
        · have hra := hr.1
          have hrb := hr.2
          have HRo := Lib.hid (rotate_any E'.out (.func (.func g) #[] lb) cap i m e hra hrb (by omega) hn d wr hS)
          clear hS
          go_wp2_with fail
          refine HRo.out.mono ?_
          rintro e1 w1 ⟨rfl, hS1⟩
          by_cases hl : a < i ∧ i < mid
          · have hl1 := hl.1
            have hl2 := hl.2
            have hL := IH.out a i mid (by omega) (by omega) _ _ hk1.out (hcut.out.left hT.out hl1 hl2) hS1
            have HL := Lib.hid hL
            clear hL hS1
            go_wp2_with fail
            all_goals
              refine HL.out.mono ?_
              rintro e1 w2 ⟨rfl, d2, hon2', hsd2', hS2⟩
              have hon2 := Lib.hid hon2'
              have hsd2 := Lib.hid hsd2'
              clear hon2' hsd2'
              by_cases hr2 : mid < e ∧ e < b
              · have hr3 := hr2.1
                have hr4 := hr2.2
                have hR := IH.out mid e b (by omega) hbn _ _ (hon2.out.all (by omega) hk1.out) (((hcut.out.right hT.out hr3 hr4)).keep hon2.out.1) hS2
                have HRt := Lib.hid hR
                clear hR hS2
                go_wp2_with fail
                all_goals
                  refine HRt.out.mono ?_
                  rintro e1 w3 ⟨rfl, d3, hon3, hsd3, hS3⟩
                  go_wp2_with fail
                  go_end0
                  exact ⟨rfl, d3, (fin.out _ _ hon2.out hsd2.out hon3 hsd3).1, (fin.out _ _ hon2.out hsd2.out hon3 hsd3).2, hS3⟩
              · have hsd3 := Lib.hid ((hcut.out.right_done hT.out hr2).of_eq fun i h1 _ => hon2.out.1 i (Or.inr h1))
                go_wp2_with fail
                all_goals
                  go_end0
                  exact ⟨rfl, _, (fin.out _ _ hon2.out hsd2.out (Srt.On.refl _ _ _) hsd3.out).1, (fin.out _ _ hon2.out hsd2.out (Srt.On.refl _ _ _) hsd3.out).2, hS2⟩
          · have hon2 := Lib.hid (Srt.On.refl a mid (Srt.rot i m e d))
            have hsd2 := Lib.hid (hcut.out.left_done hT.out hl)
            have hS2 := hS1
            clear hS1
            by_cases hr2 : mid < e ∧ e < b
            · have hr3 := hr2.1
              have hr4 := hr2.2
              have hR := IH.out mid e b (by omega) hbn _ _ (hon2.out.all (by omega) hk1.out) (((hcut.out.right hT.out hr3 hr4)).keep hon2.out.1) hS2
              have HRt := Lib.hid hR
              clear hR hS2
              go_wp2_with fail
              all_goals
                refine HRt.out.mono ?_
                rintro e1 w3 ⟨rfl, d3, hon3, hsd3, hS3⟩
                go_wp2_with fail
                go_end0
                exact ⟨rfl, d3, (fin.out _ _ hon2.out hsd2.out hon3 hsd3).1, (fin.out _ _ hon2.out hsd2.out hon3 hsd3).2, hS3⟩
            · have hsd3 := Lib.hid ((hcut.out.right_done hT.out hr2).of_eq fun i h1 _ => hon2.out.1 i (Or.inr h1))
              go_wp2_with fail
              all_goals
                go_end0
                exact ⟨rfl, _, (fin.out _ _ hon2.out hsd2.out (Srt.On.refl _ _ _) hsd3.out).1, (fin.out _ _ hon2.out hsd2.out (Srt.On.refl _ _ _) hsd3.out).2, hS2⟩
        · have hd1 : Srt.rot i m e d = d := by
            by_cases x : i = m
            · rw [x]; exact Srt.rot_none_left _ _ _
            · have y : m = e := by omega
              rw [← y]; exact Srt.rot_none_right _ _ _
          have hS1 : SS K w0 B blk off n t (Srt.rot i m e d) wr := by rw [hd1]; exact hS
          clear hS hd1
          by_cases hl : a < i ∧ i < mid
          · have hl1 := hl.1
            have hl2 := hl.2
            have hL := IH.out a i mid (by omega) (by omega) _ _ hk1.out (hcut.out.left hT.out hl1 hl2) hS1
            have HL := Lib.hid hL
            clear hL hS1
            go_wp2_with fail
            all_goals
              refine HL.out.mono ?_
              rintro e1 w2 ⟨rfl, d2, hon2', hsd2', hS2⟩
              have hon2 := Lib.hid hon2'
              have hsd2 := Lib.hid hsd2'
              clear hon2' hsd2'
              by_cases hr2 : mid < e ∧ e < b
              · have hr3 := hr2.1
                have hr4 := hr2.2
                have hR := IH.out mid e b (by omega) hbn _ _ (hon2.out.all (by omega) hk1.out) (((hcut.out.right hT.out hr3 hr4)).keep hon2.out.1) hS2
                have HRt := Lib.hid hR
                clear hR hS2
                go_wp2_with fail
                all_goals
                  refine HRt.out.mono ?_
                  rintro e1 w3 ⟨rfl, d3, hon3, hsd3, hS3⟩
                  go_wp2_with fail
                  go_end0
                  exact ⟨rfl, d3, (fin.out _ _ hon2.out hsd2.out hon3 hsd3).1, (fin.out _ _ hon2.out hsd2.out hon3 hsd3).2, hS3⟩
              · have hsd3 := Lib.hid ((hcut.out.right_done hT.out hr2).of_eq fun i h1 _ => hon2.out.1 i (Or.inr h1))
                go_wp2_with fail
                all_goals
                  go_end0
                  exact ⟨rfl, _, (fin.out _ _ hon2.out hsd2.out (Srt.On.refl _ _ _) hsd3.out).1, (fin.out _ _ hon2.out hsd2.out (Srt.On.refl _ _ _) hsd3.out).2, hS2⟩
          · have hon2 := Lib.hid (Srt.On.refl a mid (Srt.rot i m e d))
            have hsd2 := Lib.hid (hcut.out.left_done hT.out hl)
            have hS2 := hS1
            clear hS1
            by_cases hr2 : mid < e ∧ e < b
            · have hr3 := hr2.1
              have hr4 := hr2.2
              have hR := IH.out mid e b (by omega) hbn _ _ (hon2.out.all (by omega) hk1.out) (((hcut.out.right hT.out hr3 hr4)).keep hon2.out.1) hS2
              have HRt := Lib.hid hR
              clear hR hS2
              go_wp2_with fail
              all_goals
                refine HRt.out.mono ?_
                rintro e1 w3 ⟨rfl, d3, hon3, hsd3, hS3⟩
                go_wp2_with fail
                go_end0
                exact ⟨rfl, d3, (fin.out _ _ hon2.out hsd2.out hon3 hsd3).1, (fin.out _ _ hon2.out hsd2.out hon3 hsd3).2, hS3⟩
            · have hsd3 := Lib.hid ((hcut.out.right_done hT.out hr2).of_eq fun i h1 _ => hon2.out.1 i (Or.inr h1))
              go_wp2_with fail
              all_goals
                go_end0
                exact ⟨rfl, _, (fin.out _ _ hon2.out hsd2.out (Srt.On.refl _ _ _) hsd3.out).1, (fin.out _ _ hon2.out hsd2.out (Srt.On.refl _ _ _) hsd3.out).2, hS2⟩

theorem symMerge_any {g : Nat} {lb : Array Value} {cmp : Int → Int → Int} {Ok : Int → Prop} {pr : Int → Int → Prop} {K : World → Prop} {w0 : World} {B blk off n : Nat} {t : TypeId} (E : Env Try.prog g lb cmp Ok K w0 B blk) (O : Srt.Ord cmp Ok pr) (cap : Nat) (hn : n ≤ 1000000) : ∀ (N a m b : Nat), b - a ≤ N → b ≤ n → ∀ (d : Nat → Int) (w : World), Srt.All Ok n d → Srt.Two pr a m b d → SS K w0 B blk off n t d w →
    Calls Try.prog 55 #[.slice (some ⟨blk, off, none⟩) n cap, .int .i64 a, .int .i64 m, .int .i64 b, .func (.func g) #[] lb] w fun e w' => e = .returned (.tuple #[]) ∧ ∃ d', Srt.On a b d d' ∧ Srt.Sd pr a b d' ∧ SS K w0 B blk off n t d' w' := by
  intro N
  induction N with
  | zero => intro a m b hN _ d w _ T _; have := T.am; have := T.mb; omega
  | succ N ih =>
    intro a m b hN hbn d w hk T h
    by_cases h1 : m = a + 1
    · exact sym_left E O cap a m b hbn hn d hk T h1 w h
    · by_cases h2 : b = m + 1
      · exact sym_right E O cap a m b hbn hn d hk T h1 h2 w h
      · have am := T.am
        have mb := T.mb
        by_cases h3 : (a + b) / 2 < m
        · exact sym_main E O cap a m b hbn hn d hk T h1 h2 (fun a' m' b' hlt hb' => ih a' m' b' (by omega) hb') ((a + b) / 2) _ ((a + b) / 2 + m - 1) ((a + b) / 2 + m - b) ((a + b) / 2) rfl rfl (by omega) (Or.inl ⟨h3, rfl, rfl⟩) w h
        · exact sym_main E O cap a m b hbn hn d hk T h1 h2 (fun a' m' b' hlt hb' => ih a' m' b' (by omega) hb') ((a + b) / 2) _ ((a + b) / 2 + m - 1) a m rfl rfl (by omega) (Or.inr ⟨by omega, rfl, rfl⟩) w h
end Go.Proofs.Ytnjgkgnjbmfpfaa
