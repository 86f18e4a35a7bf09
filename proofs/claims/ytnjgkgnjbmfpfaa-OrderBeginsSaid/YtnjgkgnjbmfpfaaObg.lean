/- Walk of OrderBegins. -/
import Derived.Test.YtnjgkgnjbmfpfaaObp
import Derived.Test.YtnjgkgnjbmfpfaaOfi
namespace Go.Proofs.Ytnjgkgnjbmfpfaa
open Go.RowKit Go.Maps Go.Sort Ot

set_option maxRecDepth 100000 in
set_option maxHeartbeats 8000000 in
theorem walk_OrderBegins (u0 u1 u2 u3 : Int) (A1 : Option Addr) (nh k1 : Nat) (A2 : Option Addr) (n k2 : Nat) (hu : In64 u0 ∧ In64 u1 ∧ In64 u2 ∧ In64 u3) (hk2 : n ≤ k2) {w : World} (hh : ∃ f, UsesIn w A1 nh f) (hj : ∃ f, WantsIn w A2 n f) :
    Calls Try.prog 15 #[.agg #[.int .i64 u0, .int .i64 u1, .int .i64 u2, .int .i64 u3], .slice A1 nh k1, .slice A2 n k2] w fun e w' => e = .returned (.bool true) ∧ Below w.heap.size w w' := by
  obtain ⟨h, hh⟩ := hh
  obtain ⟨js, hj⟩ := hj
  have HU := Lib.hid hu
  have HH := Lib.hid hh
  have HJ := Lib.hid hj
  clear hh hj hu
  go_enter Try.func15, Try.ntmps15
  go_wp2_with fail
  refine (awake_any _).mono ?_
  rintro e w1 ⟨rfl, B1⟩
  have K3 : Bk w1 w.heap.size 28 #[.int .i64 u0, .int .i64 u1, .int .i64 u2, .int .i64 u3] := (Bk.new w _ _).pass B1
  have HB1 := Lib.hid (((Below.refl w.heap.size w).alloc (Nat.le_refl _) _).trans (B1.mono (by simp)))
  clear B1
  have c0 : w1.cell? ⟨w.heap.size, 0, none⟩ = some (.int .i64 u0) := K3.cell rfl
  have c1 : w1.cell? ⟨w.heap.size, 1, none⟩ = some (.int .i64 u1) := K3.cell rfl
  have c2 : w1.cell? ⟨w.heap.size, 2, none⟩ = some (.int .i64 u2) := K3.cell rfl
  have c3 : w1.cell? ⟨w.heap.size, 3, none⟩ = some (.int .i64 u3) := K3.cell rfl
  by_cases hb1 : 40 < nh
  · have hb1' : (40 : Int) < (nh : Int) := by omega
    go_wp2_with fail
    go_ret
    exact ⟨rfl, HB1.out⟩
  by_cases hb2 : 40 < n
  · have hb1' : (nh : Int) ≤ 40 := by omega
    have hb2' : (40 : Int) < (n : Int) := by omega
    go_wp2_with fail
    go_ret
    exact ⟨rfl, HB1.out⟩
  have hb1' : (nh : Int) ≤ 40 := by omega
  have hb2' : (n : Int) ≤ 40 := by omega
  by_cases hb3 : n = 0
  · have hn0 : ((n : Int) == 0) = true := by simp; omega
    go_wp2_with fail
    go_ret
    exact ⟨rfl, HB1.out⟩
  have hn0 : ((n : Int) == 0) = false := by simp; omega
  have C := Lib.hid (turns_raw u0 u1 u2 u3 HU.out A1 nh k1 h A2 n k2 js (HH.out.keep HB1.out) (HJ.out.keep HB1.out) (by omega) (by omega))
  go_wp2_with fail
  refine C.out.mono ?_
  rintro e w2 ⟨A, c, l, rfl, hF, hT, B2⟩
  have H2 := Lib.hid (show _ ∧ _ ∧ _ ∧ _ from ⟨hF, hT, below_pass HB1.out HB1.out.size B2, K3.pass B2⟩)
  clear hF hT B2 C K3 c0 c1 c2 c3
  have c0 : w2.cell? ⟨w.heap.size, 0, none⟩ = some (.int .i64 u0) := H2.out.2.2.2.cell rfl
  have c1 : w2.cell? ⟨w.heap.size, 1, none⟩ = some (.int .i64 u1) := H2.out.2.2.2.cell rfl
  have c2 : w2.cell? ⟨w.heap.size, 2, none⟩ = some (.int .i64 u2) := H2.out.2.2.2.cell rfl
  have c3 : w2.cell? ⟨w.heap.size, 3, none⟩ = some (.int .i64 u3) := H2.out.2.2.2.cell rfl
  have C3 := Lib.hid (first_any u0 u1 u2 u3 HU.out A1 nh k1 h A2 n k2 js (HH.out.keep H2.out.2.2.1) (HJ.out.keep H2.out.2.2.1) (by omega) (by omega))
  go_wp2_with fail
  refine C3.out.mono ?_
  intro e w3 hS
  obtain ⟨B3, l2, hT2, hS⟩ := hS
  obtain rfl : l2 = l := hT2.2.unique H2.out.2.1.2 (hT2.1.trans H2.out.2.1.1.symm)
  have hlen := H2.out.1.len
  rcases hS with ⟨hl, rfl⟩ | ⟨k, t, rfl, rfl⟩
  · exfalso
    rw [hl] at hlen
    exact hb3 hlen
  have HF3 := Lib.hid (H2.out.1.pass B3)
  have H3 := Lib.hid (show _ ∧ _ ∧ _ from ⟨hT2, below_pass H2.out.2.2.1 H2.out.2.2.1.size B3, H2.out.2.2.2.pass B3⟩)
  obtain ⟨g1, o1, rfl, cx⟩ := HF3.out.cellAt (j := 0) (x := k) rfl
  rw [Nat.add_zero] at cx
  have hk : k < n := (hT2.2 0 k rfl).1
  have hkn : (k : Int) < (n : Int) := by omega
  have hk0 : (0 : Int) ≤ (k : Int) := by omega
  have hn1 : (0 : Int) < (n : Int) := by omega
  have d1 : decide ((k : Int) < 0) = false := by simp
  have d2 : decide (n ≤ k) = false := by simp; omega
  have d3 : ((k : Int) == (k : Int)) = true := by simp
  clear hT2 B3 C3 c0 c1 c2 c3 hlen H2
  obtain ⟨r5, w5, e5, hE5, hg5⟩ := erAppend useOk (ER.nil 54 5 useL w3 w3.heap.size) (Nat.le_refl _) k1 (useSrc (HH.out.keep H3.out.2.1)) (by simp; omega) (fun _ => rfl)
  rw [List.nil_append] at hE5
  obtain ⟨A5, k5, hr5⟩ := hE5.form
  rw [List.length_map, List.length_range] at hr5
  subst hr5
  have E5 := Lib.hid e5
  clear e5
  go_upto_region 12 with (at_builtin; refine wpList_append_eq E5.out _ _ rfl rfl rfl rfl rfl ?_)
  obtain ⟨bl, off, rfl, hc⟩ := HJ.out (by omega)
  have hB5 : Below w.heap.size w w5 := H3.out.2.1.grown hg5 H3.out.2.1.size fun g hg => by simp [Value.ownBlock] at hg
  have hat := (hc k hk).keep (hB5.block bl (hc k hk).lt)
  clear hc
  have a1 := hat.c1
  have a3 := hat.c3
  have a4 := hat.c4
  have a5 := hat.c5
  have a6 := hat.c6
  clear hat
  have hs5 : w3.heap.size ≤ w5.heap.size := hg5.size
  obtain ⟨r6, w6, e6, hE6, hg6⟩ := erPush useOk (W := w5.drew) (hE5.keep fun _ _ _ => rfl) ⟨(js k).user, (js k).need⟩ (cs := #[encStr (js k).user, .int .i64 ((js k).need 0), .int .i64 ((js k).need 1), .int .i64 ((js k).need 2), .int .i64 ((js k).need 3)]) rfl (by simp; omega) hs5
  obtain ⟨A6, k6, hr6⟩ := hE6.form
  rw [List.length_append, List.length_map, List.length_range, List.length_singleton] at hr6
  subst hr6
  have E6 := Lib.hid e6
  have hB6 : Below w.heap.size w w6 := hB5.drew.grown hg6 hB5.size fun g hg => by have := (hE5.lt g hg).1; have := H3.out.2.1.size; omega
  have hk6 : Bk w6 w.heap.size 28 #[.int .i64 u0, .int .i64 u1, .int .i64 u2, .int .i64 u3] := by
    have h5 : Bk w5 w.heap.size 28 #[.int .i64 u0, .int .i64 u1, .int .i64 u2, .int .i64 u3] := (hg5.block _ H3.out.2.2.lt (by simp [Value.ownBlock])).trans H3.out.2.2
    exact (hg6.block _ h5.lt fun c => by have := (hE5.lt _ c.symm).1; have := H3.out.2.2.lt; omega).trans h5
  have hF6 : FR w6 w1.heap.size (.slice (some ⟨g1, o1, none⟩) n c) (k :: t) := by
    have h5 : FR w5 w1.heap.size (.slice (some ⟨g1, o1, none⟩) n c) (k :: t) := HF3.out.keep fun g _ hl => hg5.block g hl (by simp [Value.ownBlock])
    refine h5.keep fun g hg hl => hg6.block g hl fun c => ?_
    have h1 := (hE5.lt _ c.symm).1
    have h2 := (HF3.out.lt g hg).2
    omega
  have H6 := Lib.hid (show _ ∧ _ ∧ _ ∧ _ from ⟨hE6, hB6, hk6, hF6⟩)
  clear e6 hg6 hE6 hB6 hk6 hF6 hs5 hg5 hE5 hB5
  go_upto_region 12 with fail
  go_cut [11] (fun s11 wx => s11 = .slice A6 (nh + 1) k6 ∧ wx = w6)
  case first =>
    go_region_law (refine step_append_eq E6.out _ _ rfl rfl rfl rfl rfl ?_)
    all_goals
      go_wp2_with fail
      go_meet
      exact ⟨rfl, rfl⟩
  case rest =>
    obtain ⟨rfl, rfl⟩ := hcut
    clear a1 a3 a4 a5 a6 E5 E6
    have HJ6 := Lib.hid (wantSrc (HJ.out.keep H6.out.2.1))
    obtain ⟨r7, w7, e7, hE7, hg7⟩ := erAppend wantOk (ER.nil 50 7 wantL wc wc.heap.size) (Nat.le_refl _) k2 (srcTake HJ6.out (m := k) (by omega)) (by simp; omega) (fun _ => rfl)
    rw [List.nil_append] at hE7
    obtain ⟨A7, k7, hr7⟩ := hE7.form
    rw [List.length_map, List.length_range] at hr7
    subst hr7
    have E7 := Lib.hid e7
    have hkk : (k : Int) ≤ (k2 : Int) := by omega
    have hnk : (n : Int) ≤ (k2 : Int) := by omega
    have hk1n : (k : Int) + 1 ≤ (n : Int) := by omega
    go_upto_region 15 with (at_builtin; refine wpList_append_eq E7.out _ _ rfl rfl rfl rfl rfl ?_)
    have hs7 : wc.heap.size ≤ w7.heap.size := hg7.size
    have hB7 : Below w.heap.size w w7 := H6.out.2.1.grown hg7 H6.out.2.1.size fun g hg => by simp [Value.ownBlock] at hg
    have HJ7 := Lib.hid (wantSrc (HJ.out.keep hB7))
    obtain ⟨r8, w8, e8, hE8, hg8⟩ := erAppend wantOk hE7 hs7 (k2 - (k + 1)) (srcDrop HJ7.out hk2 (q := k + 1) (by omega)) (by simp; omega) (fun h => by split at h <;> cases h)
    obtain ⟨q, hq⟩ : ∃ q, Hid (n - 1 = q) := ⟨_, Lib.hid rfl⟩
    obtain ⟨A8, k8, hr8⟩ := hE8.form
    rw [List.length_append, List.length_map, List.length_map, List.length_range, List.length_range, show k + (n - (k + 1)) = q by have := hq.out; omega] at hr8
    subst hr8
    have E8 := Lib.hid e8
    have hn7 : ∀ b, b < wc.heap.size → w7.heap[b]? = wc.heap[b]? := fun b hb => hg7.block b hb (by simp [Value.ownBlock])
    have hn8 : ∀ b, b < wc.heap.size → w8.heap[b]? = wc.heap[b]? := fun b hb => (hg8.block b (by omega) fun c => by have := (hE7.lt _ c.symm).1; omega).trans (hn7 b hb)
    have hB8 : Below w.heap.size w w8 := hB7.grown hg8 hB7.size fun g hg => by have := (hE7.lt g hg).1; have := H6.out.2.1.size; omega
    have hk8 : Bk w8 w.heap.size 28 #[.int .i64 u0, .int .i64 u1, .int .i64 u2, .int .i64 u3] := (hn8 _ H6.out.2.2.1.lt).trans H6.out.2.2.1
    have hF8 : FR w8 w1.heap.size (.slice (some ⟨g1, o1, none⟩) n c) (k :: t) := H6.out.2.2.2.keep fun g _ hl => hn8 g hl
    have hM8 : ER 54 5 useL w8 w3.heap.size (.slice A6 (nh + 1) k6) ((List.range nh).map h ++ [⟨(js k).user, (js k).need⟩]) := H6.out.1.keep fun g _ hl => hn8 g hl
    have hJ8 := hE8
    have HJ8 := Lib.hid (show WantsIn w8 A8 q (fun j => js (sh k j)) by rw [← hq.out]; exact rest_wants hk hE8 fun q hq => HJ.out.ok hq)
    have HM8 := Lib.hid (more_uses hM8 (fun q hq => HH.out.ok hq) (by have := HJ.out.ok hk; exact ⟨this.2.1, this.2.2.2⟩))
    have H8 := Lib.hid (show _ ∧ _ ∧ _ from ⟨hB8, hk8, hF8⟩)
    clear e7 e8 hE7 hE8 hg7 hg8 hs7 hB7 hn7 hn8 hB8 hk8 hF8 hM8 hJ8
    go_upto_region 15 with fail
    go_cut [12] (fun s12 wx => s12 = .slice A8 q k8 ∧ wx = w8)
    case first =>
      go_wp2_with (at_builtin; refine wpList_append_eq E8.out _ _ rfl rfl rfl rfl rfl ?_; generalize (if k2 = k + 1 then some (⟨bl, off, none⟩ : Addr) else some ⟨bl, off + (k + 1) * 7, none⟩) = Z)
      go_meet
      exact ⟨rfl, rfl⟩
    case rest =>
      obtain ⟨rfl, rfl⟩ := hcut
      clear E7 E8
      have c0 : wc.cell? ⟨w.heap.size, 0, none⟩ = some (.int .i64 u0) := H8.out.2.1.cell rfl
      have c1 : wc.cell? ⟨w.heap.size, 1, none⟩ = some (.int .i64 u1) := H8.out.2.1.cell rfl
      have c2 : wc.cell? ⟨w.heap.size, 2, none⟩ = some (.int .i64 u2) := H8.out.2.1.cell rfl
      have c3 : wc.cell? ⟨w.heap.size, 3, none⟩ = some (.int .i64 u3) := H8.out.2.1.cell rfl
      have C8 := Lib.hid (turns_raw u0 u1 u2 u3 HU.out A6 (nh + 1) k6 _ A8 q k8 _ HM8.out HJ8.out (by omega) (by have := hq.out; omega))
      go_upto_region 16 with fail
      go_wp2_with fail
      refine C8.out.mono ?_
      rintro e w9 ⟨B, d, m, rfl, hFm, hTm, B9⟩
      have ht : t = m.map (sh k) := begins (P := ⟨v4 u0 u1 u2 u3, nh, h, n, js⟩) H3.out.1 (by have hq' := hq.out; subst hq'; exact hTm)
      have H9 := Lib.hid (show _ ∧ _ ∧ _ from ⟨hFm, H8.out.2.2.pass B9, below_pass H8.out.1 H8.out.1.size B9⟩)
      have HT := Lib.hid ht
      have d4 : ((q : Int) == (n : Int) - 1) = true := by have := hq.out; simp; omega
      clear hFm hTm B9 ht c0 c1 c2 c3 C8
      go_wp2_with fail
      go_loopg [14] q (fun g s14 wr => ∃ i : Nat, i ≤ q ∧ g = q - i ∧ s14 = .int .i64 i ∧ Hid (FR wr wc.heap.size (.slice B q d) m ∧ FR wr w1.heap.size (.slice (some ⟨g1, o1, none⟩) n c) (k :: t) ∧ Below w.heap.size w wr))
      case atStart => exact ⟨0, by omega, by omega, rfl, H9⟩
      case round =>
        clear H9
        obtain ⟨i, hi, hg, rfl, H⟩ := hrel
        have i0 : (0 : Int) ≤ (i : Int) := by omega
        by_cases hlt : i < q
        · have hlt' : (i : Int) < (q : Int) := by omega
          have hml := H.out.1.len
          obtain ⟨y, hy⟩ : ∃ y, m[i]? = some y := ⟨_, List.getElem?_eq_getElem (by rw [← hml]; exact hlt)⟩
          obtain ⟨g2, o2, rfl, ca⟩ := H.out.1.cellAt hy
          have hty : (k :: t)[i + 1]? = some (sh k y) := by rw [HT.out, List.getElem?_cons_succ, List.getElem?_map, hy]; rfl
          obtain ⟨g', o', e', cb⟩ := H.out.2.1.cellAt hty
          simp only [Option.some.injEq, Addr.mk.injEq] at e'
          obtain ⟨rfl, rfl, _⟩ := e'
          have hin : (i : Int) + 1 < (n : Int) := by have := hq.out; omega
          have hin2 : (i : Int) + 1 ≤ 9223372036854775807 := by omega
          have hyn : (y : Int) ≤ 1000 := by
            have h1 := (H3.out.1.2 (i + 1) (sh k y) hty).1
            have h2 : sh k y < n := h1
            unfold sh at h2
            split at h2 <;> omega
          have y0 : (0 : Int) ≤ (y : Int) := by omega
          clear hy hty hml
          by_cases hky : k ≤ y
          · have e1 : ((sh k y : Nat) : Int) = (y : Int) + 1 := by unfold sh; rw [if_neg (by omega)]; simp
            rw [e1] at cb
            have d5 : decide (k ≤ y) = true := by simpa using hky
            have hky' : (k : Int) ≤ (y : Int) := by omega
            clear e1
            go_wp2_with fail
            go_roundg (q - (i + 1))
            case measure => omega
            case rel => exact ⟨i + 1, by omega, rfl, by go_num, H⟩
          · have e1 : ((sh k y : Nat) : Int) = (y : Int) := by unfold sh; rw [if_pos (by omega)]
            rw [e1] at cb
            have d5 : decide (k ≤ y) = false := by simpa using hky
            have hky' : (y : Int) < (k : Int) := by omega
            clear e1
            go_wp2_with fail
            go_roundg (q - (i + 1))
            case measure => omega
            case rel => exact ⟨i + 1, by omega, rfl, by go_num, H⟩
        · obtain rfl : q = i := by omega
          go_wp2_with fail
          go_ret
          exact ⟨rfl, H.out.2.2⟩
end Go.Proofs.Ytnjgkgnjbmfpfaa
