/- Walk of the stable sort: blocks of 20, then merges; slices.SortStableFunc of numbers. -/
import Derived.Test.YtnjgkgnjbmfpfaaSt
import Derived.Test.YtnjgkgnjbmfpfaaSq
namespace Go.Proofs.Ytnjgkgnjbmfpfaa
open Go.RowKit

set_option maxRecDepth 100000 in
set_option maxHeartbeats 8000000 in
theorem stable_any {g : Nat} {lb : Array Value} {cmp : Int → Int → Int} {Ok : Int → Prop} {pr : Int → Int → Prop} {K : World → Prop} {w0 : World} {B blk off n : Nat} {t : TypeId} (E : Env Try.prog g lb cmp Ok K w0 B blk) (O : Srt.Ord cmp Ok pr) (cap : Nat) (hn : n ≤ 1000000) (d : Nat → Int) (hk : Srt.All Ok n d) (hr : Srt.Rise 0 n d) (w : World) (h : SS K w0 B blk off n t d w) :
    Calls Try.prog 49 #[.slice (some ⟨blk, off, none⟩) n cap, .int .i64 n, .func (.func g) #[] lb] w fun e w' => e = .returned (.tuple #[]) ∧ ∃ d', Srt.Sd pr 0 n d' ∧ Srt.Val 0 n d d' ∧ SS K w0 B blk off n t d' w' := by
  have E' := Lib.hid E
  have O' := Lib.hid O
  have hK := Lib.hid hk
  have hR := Lib.hid hr
  clear E O hk hr
  go_enter Try.func49, Try.ntmps49
  go_wp2_with fail
  go_loopg [7, 8] n (fun gg s7 s8 wr => ∃ x : Nat, 20 * x ≤ n ∧ gg = n - 20 * x ∧ s7 = .int .i64 (20 * x : Nat) ∧ s8 = .int .i64 (20 * x + 20 : Nat) ∧ ∃ e, Hid (Srt.First pr n d x e ∧ Srt.All Ok n e) ∧ SS K w0 B blk off n t e wr)
  case atStart => exact ⟨0, by omega, by omega, by go_num, by go_num, d, Lib.hid ⟨⟨fun u hu => by omega, fun _ _ => rfl⟩, hK.out⟩, h⟩
  case round =>
    obtain ⟨x, hx, hg, rfl, rfl, e, HE, hS⟩ := hrel
    clear h
    by_cases hlt : 20 * x + 20 ≤ n
    · have hI := insertion_any E'.out O'.out cap (20 * x) (20 * x + 20) (by omega) hlt hn e HE.out.2 (fun p q h1 h2 h3 => by
        rw [HE.out.1.2 p h1, HE.out.1.2 q (by omega)]; exact hR.out p q (by omega) h2 (by omega)) wr hS
      have HI := Lib.hid hI
      clear hI hS
      have hlt2 : ((20 * x + 20 : Nat) : Int) ≤ (n : Int) := by omega
      generalize ha : 20 * x = a at *
      have HA := Lib.hid ha
      clear ha
      generalize hb : a + 20 = b at *
      have HB := Lib.hid hb
      clear hb
      go_wp2_with fail
      refine HI.out.mono ?_
      rintro e1 w1 ⟨rfl, e2, h1, h2, hS1⟩
      have h3 : Srt.First pr n d (x + 1) e2 := by
        rw [← HA.out] at h1 h2
        rw [← HB.out, ← HA.out] at h1 h2
        exact HE.out.1.step (by rw [HA.out, HB.out]; exact hlt) h1 h2
      have H3 := Lib.hid (show Srt.First pr n d (x + 1) e2 ∧ Srt.All Ok n e2 from ⟨h3, h1.all hlt HE.out.2⟩)
      clear h1 h2 h3
      go_wp2_with fail
      have HA2 := HA.out
      have HB2 := HB.out
      go_roundg (n - 20 * (x + 1))
      case measure => omega
      case rel => exact ⟨x + 1, by omega, rfl, by rw [show 20 * (x + 1) = b by omega], by rw [show ((20 * (x + 1) + 20 : Nat) : Int) = (b : Int) + 20 by omega], e2, H3, hS1⟩
    · have hI := insertion_any E'.out O'.out cap (20 * x) n hx (Nat.le_refl _) hn e HE.out.2 (fun p q h1 h2 h3 => by
        rw [HE.out.1.2 p h1, HE.out.1.2 q (by omega)]; exact hR.out p q (by omega) h2 (by omega)) wr hS
      have HI := Lib.hid hI
      clear hI hS
      have hlt2 : ¬ ((20 * x + 20 : Nat) : Int) ≤ (n : Int) := by omega
      generalize ha : 20 * x = a at *
      have HA := Lib.hid ha
      clear ha
      generalize hb : a + 20 = b at *
      have HB := Lib.hid hb
      clear hb
      go_wp2_with fail
      refine HI.out.mono ?_
      rintro e1 w1 ⟨rfl, e2, h1, h2, hS1⟩
      have h3 : ∀ u, Srt.Blk pr n d 20 (20 * u) e2 := by
        rw [← HA.out] at h1 h2
        exact HE.out.1.last (by rw [HA.out]; exact hx) (by rw [HA.out, HB.out]; omega) h1 h2
      have H3 := Lib.hid (show (∀ u, Srt.Blk pr n d 20 (20 * u) e2) ∧ Srt.All Ok n e2 from ⟨h3, h1.all (Nat.le_refl _) HE.out.2⟩)
      clear h1 h2 h3 HE HI
      go_wp2_with fail
      go_loopg [6] (n - 20) (fun gg s6 wr => ∃ s : Nat, 0 < s ∧ s ≤ 2000020 ∧ gg = n - s ∧ s6 = .int .i64 s ∧ ∃ e, Hid ((∀ u, Srt.Blk pr n d s (s * u) e) ∧ Srt.All Ok n e) ∧ SS K w0 B blk off n t e wr)
      case atStart => exact ⟨20, by omega, by omega, rfl, rfl, e2, H3, hS1⟩
      case round =>
        obtain ⟨s, hs, hs2, hg2, rfl, e3, HE, hS⟩ := hrel
        clear hS1 H3
        by_cases hlt3 : s < n
        · have HP0 := Lib.hid (Srt.Pass.start HE.out.1)
          go_wp2_with fail
          go_loopg [7, 8] n (fun gg s7 s8 wr => ∃ a : Nat, a ≤ n ∧ gg = n - a ∧ s7 = .int .i64 a ∧ s8 = .int .i64 (a + 2 * s : Nat) ∧ ∃ e, Hid (Srt.Pass pr n d s a e ∧ Srt.All Ok n e) ∧ SS K w0 B blk off n t e wr)
          case atStart => exact ⟨0, by omega, by omega, rfl, by go_num, e3, Lib.hid ⟨HP0.out, HE.out.2⟩, hS⟩
          case round =>
            obtain ⟨a, ha, hg3, rfl, rfl, e4, HP, hS4⟩ := hrel
            clear hS HP0 HE
            by_cases hle : a + 2 * s ≤ n
            · have hM := symMerge_any E'.out O'.out cap hn _ a (a + s) (a + 2 * s) (Nat.le_refl _) hle e4 _ HP.out.2 (HP.out.1.two hs (by omega) (by omega) hR.out) hS4
              rw [show ((a + s : Nat) : Int) = (a : Int) + s by omega] at hM
              have HM := Lib.hid hM
              clear hM hS4
              have hle2 : ((a + 2 * s : Nat) : Int) ≤ (n : Int) := by omega
              generalize hb : a + 2 * s = b at *
              have HB := Lib.hid hb
              clear hb
              go_wp2_with fail
              refine HM.out.mono ?_
              rintro e1 w5 ⟨rfl, e5, h1, h2, hS5⟩
              have h3 : Srt.Pass pr n d s b e5 := by
                rw [← HB.out] at h1 h2 ⊢
                exact HP.out.1.step (by rw [HB.out]; exact hle) hs h1 h2
              have H3 := Lib.hid (show Srt.Pass pr n d s b e5 ∧ Srt.All Ok n e5 from ⟨h3, h1.all hle HP.out.2⟩)
              clear h1 h2 h3
              go_wp2_with fail
              have HB2 := HB.out
              go_roundg (n - b)
              case measure => omega
              case rel => exact ⟨b, hle, rfl, rfl, by go_num, e5, H3, hS5⟩
            · have hle2 : ¬ ((a + 2 * s : Nat) : Int) ≤ (n : Int) := by omega
              by_cases hm : a + s < n
              · have hM := symMerge_any E'.out O'.out cap hn _ a (a + s) n (Nat.le_refl _) (Nat.le_refl _) e4 _ HP.out.2 (HP.out.1.two hs hm (by omega) hR.out) hS4
                rw [show ((a + s : Nat) : Int) = (a : Int) + s by omega] at hM
                have HM := Lib.hid hM
                clear hM hS4
                have hm2 : (a : Int) + (s : Int) < (n : Int) := by omega
                generalize hb : a + 2 * s = b at *
                have HB := Lib.hid hb
                clear hb
                go_wp2_with fail
                refine HM.out.mono ?_
                rintro e1 w5 ⟨rfl, e5, h1, h2, hS5⟩
                have H3 := Lib.hid (show (∀ u, Srt.Blk pr n d (2 * s) (2 * s * u) e5) ∧ Srt.All Ok n e5 from ⟨HP.out.1.last (by rw [HB.out]; omega) hm h1 h2, h1.all (Nat.le_refl _) HP.out.2⟩)
                clear h1 h2
                go_wp2_with fail
                go_roundg (n - 2 * s)
                case measure => omega
                case rel => exact ⟨2 * s, by omega, by omega, rfl, by go_num, e5, H3, hS5⟩
              · have hm2 : ¬ (a : Int) + (s : Int) < (n : Int) := by omega
                have H3 := Lib.hid (show (∀ u, Srt.Blk pr n d (2 * s) (2 * s * u) e4) ∧ Srt.All Ok n e4 from ⟨HP.out.1.rest (by omega), HP.out.2⟩)
                generalize hb : a + 2 * s = b at *
                have HB := Lib.hid hb
                clear hb
                go_wp2_with fail
                go_roundg (n - 2 * s)
                case measure => omega
                case rel => exact ⟨2 * s, by omega, by omega, rfl, by go_num, e4, H3, hS4⟩
        · go_wp2_with fail
          go_end0
          have h9 := Srt.done HE.out.1 (by omega)
          exact ⟨rfl, e3, h9.1, h9.2, hS⟩

set_option maxHeartbeats 1000000 in
theorem sortStable_any {g : Nat} {lb : Array Value} {cmp : Int → Int → Int} {Ok : Int → Prop} {pr : Int → Int → Prop} {K : World → Prop} {w0 : World} {B blk off n : Nat} {t : TypeId} (E : Env Try.prog g lb cmp Ok K w0 B blk) (O : Srt.Ord cmp Ok pr) (cap : Nat) (hn : n ≤ 1000000) (d : Nat → Int) (hk : Srt.All Ok n d) (hr : Srt.Rise 0 n d) (w : World) (h : SS K w0 B blk off n t d w) :
    Calls Try.prog 41 #[.slice (some ⟨blk, off, none⟩) n cap, .func (.func g) #[] lb] w fun e w' => e = .returned (.tuple #[]) ∧ ∃ d', Srt.Sd pr 0 n d' ∧ Srt.Val 0 n d d' ∧ SS K w0 B blk off n t d' w' := by
  have C := Lib.hid (stable_any E O cap hn d hk hr w h)
  clear E O hk hr h
  go_enter Try.func41, Try.ntmps41
  go_wp2_with fail
  refine C.out.mono ?_
  rintro e w1 ⟨rfl, hS⟩
  go_wp2_with fail
  go_end0
  exact ⟨rfl, hS⟩
end Go.Proofs.Ytnjgkgnjbmfpfaa
