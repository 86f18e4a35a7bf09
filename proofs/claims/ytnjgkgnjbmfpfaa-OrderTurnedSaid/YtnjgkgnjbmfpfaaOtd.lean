/- Walk of OrderTurned. -/
import Derived.Test.YtnjgkgnjbmfpfaaTnp
import Derived.Test.YtnjgkgnjbmfpfaaOfa
namespace Go.Proofs.Ytnjgkgnjbmfpfaa
open Go.RowKit Go.Maps Go.Sort Ot

/-- what is held while what users have is turned -/
def TnA (w w1 wr : World) (u0 u1 u2 u3 : Int) (h : Nat → UD) (nh q : Nat) (A : Option Addr) (m cap : Nat) (l : List UD) : Prop :=
  ER 54 5 useL wr w1.heap.size (.slice A m cap) l ∧ Tn h nh q l ∧ Below w.heap.size w wr ∧ Bk wr w.heap.size 28 #[.int .i64 u0, .int .i64 u1, .int .i64 u2, .int .i64 u3] ∧ w1.heap.size ≤ wr.heap.size
theorem TnA.drewN {w w1 wr : World} {u0 u1 u2 u3 : Int} {h : Nat → UD} {nh q : Nat} {A : Option Addr} {m cap : Nat} {l : List UD} (H : TnA w w1 wr u0 u1 u2 u3 h nh q A m cap l) (n : Nat) : TnA w w1 (wr.drewN n) u0 u1 u2 u3 h nh q A m cap l :=
  ⟨H.1.keep fun _ _ _ => rfl, H.2.1, below_drewN H.2.2.1 n, H.2.2.2.1.drewN n, H.2.2.2.2⟩

set_option maxRecDepth 100000 in
set_option maxHeartbeats 8000000 in
theorem walk_OrderTurned (u0 u1 u2 u3 : Int) (A1 : Option Addr) (nh k1 : Nat) (A2 : Option Addr) (n k2 : Nat) (hu : In64 u0 ∧ In64 u1 ∧ In64 u2 ∧ In64 u3) {w : World} (hh : ∃ f, UsesIn w A1 nh f) (hj : ∃ f, WantsIn w A2 n f) :
    Calls Try.prog 13 #[.agg #[.int .i64 u0, .int .i64 u1, .int .i64 u2, .int .i64 u3], .slice A1 nh k1, .slice A2 n k2] w fun e w' => e = .returned (.bool true) ∧ Below w.heap.size w w' := by
  obtain ⟨h, hh⟩ := hh
  obtain ⟨js, hj⟩ := hj
  have HU := Lib.hid hu
  have HH := Lib.hid hh
  have HJ := Lib.hid hj
  clear hh hj hu
  go_enter Try.func13, Try.ntmps13
  go_wp2_with fail
  refine (awake_any _).mono ?_
  rintro e w1 ⟨rfl, B1⟩
  have K3 : Bk w1 w.heap.size 28 #[.int .i64 u0, .int .i64 u1, .int .i64 u2, .int .i64 u3] := (Bk.new w _ _).pass B1
  have HB1 := Lib.hid (((Below.refl w.heap.size w).alloc (Nat.le_refl _) _).trans (B1.mono (by simp)))
  clear B1
  have c0 : w1.cell? ⟨w.heap.size, 0, none⟩ = some (.int .i64 u0) := K3.cell rfl
  have c1 : w1.cell? ⟨w.heap.size, 1, none⟩ = some (.int .i64 u1) := K3.cell rfl
  have c2 : w1.cell? ⟨w.heap.size, 2, none⟩ = some (.int .i64 u2) := K3.cell rfl
  have c3 : w1.cell? ⟨w.heap.size, 3, none⟩ = some (.int .i64 u3) := K3.cell rfl
  by_cases hb1 : 40 < nh
  · have hb1' : (40 : Int) < (nh : Int) := by omega
    go_wp2_with fail
    go_ret
    exact ⟨rfl, HB1.out⟩
  by_cases hb2 : 40 < n
  · have hb1' : (nh : Int) ≤ 40 := by omega
    have hb2' : (40 : Int) < (n : Int) := by omega
    go_wp2_with fail
    go_ret
    exact ⟨rfl, HB1.out⟩
  have hb1' : (nh : Int) ≤ 40 := by omega
  have hb2' : (n : Int) ≤ 40 := by omega
  have hE0 := Lib.hid (ER.one useOk (W := w1) (base := w1.heap.size) (Nat.le_refl _) ⟨nob, v4 7 7 7 7⟩ (cs := #[encStr nob, .int .i64 7, .int .i64 7, .int .i64 7, .int .i64 7]) rfl)
  have HW1 := Lib.hid (show w.heap.size < w1.heap.size from K3.lt)
  have HK3 := Lib.hid K3
  clear c0 c1 c2 c3 K3
  go_wp2_with fail
  go_loopg [8, 9] nh (fun g s8 s9 wr => ∃ (q : Nat) (z : Int), q ≤ nh ∧ g = q ∧ z + 1 = (q : Int) ∧ s9 = .int .i64 z ∧ ∃ A m cap l, s8 = .slice A m cap ∧ Hid (TnA w w1 wr u0 u1 u2 u3 h nh q A m cap l))
  case atStart => exact ⟨nh, (nh : Int) - 1, Nat.le_refl _, rfl, by omega, by go_num, _, _, _, _, rfl, Lib.hid ⟨hE0.out, Tn.start h nh, HB1.out.alloc HB1.out.size _, HK3.out.alloc _, by simp⟩⟩
  case round =>
    obtain ⟨q, z, hq, hg, hz, rfl, A, m, cap, l, rfl, H⟩ := hrel
    by_cases hz0 : 0 ≤ z
    · obtain ⟨j, rfl⟩ : ∃ j : Nat, z = (j : Int) := ⟨z.toNat, by omega⟩
      obtain rfl : q = j + 1 := by omega
      have hjn : (j : Int) < (nh : Int) := by omega
      obtain ⟨bl, off, rfl, hc⟩ := HH.out (by omega)
      have hat0 := hc j (by omega)
      have hat := hat0.keep (H.out.2.2.1.block bl hat0.lt)
      clear hc
      have c0 := hat.c0
      have c1 := hat.c1
      have c2 := hat.c2
      have c3 := hat.c3
      have c4 := hat.c4
      have hm : m ≤ 100 := by have := H.out.1.len; have := H.out.2.1.len; omega
      have HT := Lib.hid hat0
      clear hat0 hat
      go_upto_region 11 with (at_builtin; refine wpList_erpush useOk H.out.1 (h j) rfl (by omega) H.out.2.2.2.2 rfl _ _ rfl rfl rfl rfl ?_)
      intro A3 cap3 W3 hg3 hE3
      have hown : ∀ g, (Value.slice A m cap).ownBlock = some g → w1.heap.size ≤ g := fun g hg => (H.out.1.lt g hg).1
      have hown3 : ∀ g, (Value.slice A3 (m + 1) cap3).ownBlock = some g → w1.heap.size ≤ g := fun g hg => (hE3.lt g hg).1
      have hl3 : Below w.heap.size w W3 := H.out.2.2.1.grown hg3 H.out.2.2.1.size fun g hg => by have := hown g hg; have := HW1.out; omega
      have hk3 : Bk W3 w.heap.size 28 #[.int .i64 u0, .int .i64 u1, .int .i64 u2, .int .i64 u3] := (hg3.block _ H.out.2.2.2.1.lt fun c => by have := hown _ c.symm; have := HW1.out; omega).trans H.out.2.2.2.1
      have hs3 : w1.heap.size ≤ W3.heap.size := Nat.le_trans H.out.2.2.2.2 hg3.size
      have d0 := (HT.out.keep (hl3.block bl HT.out.lt)).c0
      have H3 := Lib.hid (show _ ∧ _ ∧ _ ∧ _ ∧ _ from ⟨hE3, hl3, hk3, hs3, hown3⟩)
      clear hE3 hl3 hk3 hs3 hg3 hown hown3 c0 c1 c2 c3 c4
      go_upto_region 9 with (at_builtin; refine wpList_erpush useOk H3.out.1 ⟨(h j).user, v4 0 (-3) 0 0⟩ rfl (by omega) H3.out.2.2.2.1 rfl _ _ rfl rfl rfl rfl ?_)
      intro A4 cap4 W4 hg4 hE4
      have hl4 : Below w.heap.size w W4 := H3.out.2.1.grown hg4 H3.out.2.1.size fun g hg => by have := H3.out.2.2.2.2 g hg; have := HW1.out; omega
      have hk4 : Bk W4 w.heap.size 28 #[.int .i64 u0, .int .i64 u1, .int .i64 u2, .int .i64 u3] := (hg4.block _ H3.out.2.2.1.lt fun c => by have := H3.out.2.2.2.2 _ c.symm; have := HW1.out; omega).trans H3.out.2.2.1
      have hs4 : w1.heap.size ≤ W4.heap.size := Nat.le_trans H3.out.2.2.2.1 hg4.size
      have hnext : Hid (TnA w w1 W4 u0 u1 u2 u3 h nh j A4 (m + 1 + 1) cap4 ((l ++ [h j]) ++ [⟨(h j).user, v4 0 (-3) 0 0⟩])) := Lib.hid ⟨by rw [List.append_assoc]; exact hE4, H.out.2.1.step hq ⟨HT.out.b0, HT.out.b1⟩, hl4, hk4, hs4⟩
      clear hE4 hl4 hk4 hs4 hg4 H3 d0
      go_wp2_with fail
      go_roundg j
      case measure => omega
      case rel => exact ⟨j, (j : Int) - 1, by omega, rfl, by omega, by go_num, _, _, _, _, rfl, hnext⟩
    · obtain rfl : q = 0 := by omega
      obtain rfl : z = -1 := by omega
      go_wp2_with fail
      rename World => wo
      go_loopg [10] n (fun g s10 wi => ∃ i : Nat, i ≤ n ∧ g = n - i ∧ s10 = .int .i64 i ∧ Hid (TnA w w1 wi u0 u1 u2 u3 h nh 0 A m cap l ∧ ∀ j, j < i → (js j).user ≠ nob))
      case atStart => exact ⟨0, by omega, by omega, rfl, Lib.hid ⟨H.out, fun j hj => absurd hj (by omega)⟩⟩
      case round =>
        clear H
        obtain ⟨i, hi, hg2, rfl, H⟩ := hrel
        have i0 : (0 : Int) ≤ (i : Int) := by omega
        by_cases hlt : i < n
        · have hlt' : (i : Int) < (n : Int) := by omega
          obtain ⟨bl, off, rfl, hc⟩ := HJ.out (by omega)
          have hat := (hc i hlt).keep (H.out.1.2.2.1.block bl (hc i hlt).lt)
          have c1 := hat.c1
          clear hc hat
          obtain ⟨t, ht⟩ := H.out.1.2.1.first
          obtain ⟨gb, rfl, hcell⟩ := H.out.1.1.cellAt useOk (by rw [ht]; simp)
          have co : wr.cell? ⟨gb, 0, none⟩ = some (encStr nob) := by
            have := hcell 0 0 ⟨nob, v4 7 7 7 7⟩ (encStr nob) (by rw [ht]; rfl) rfl
            simpa using this
          have hm0 : (0 : Int) < (m : Int) := by have := H.out.1.1.len; rw [ht] at this; simp at this; omega
          clear hcell ht
          obtain ⟨nb, hnb⟩ : ∃ v, Hid (nob = v) := ⟨_, Lib.hid rfl⟩
          obtain ⟨uy, huy⟩ : ∃ v, Hid ((js i).user = v) := ⟨_, Lib.hid rfl⟩
          rw [huy.out] at c1
          rw [hnb.out] at co
          by_cases he : uy = nb
          · have hd : (uy == nb) = true := by simpa using he
            clear he
            go_upto_region 15 with fail
            go_quiet (fail)
            all_goals
              go_wp2_with fail
              go_ret
              exact ⟨rfl, below_drewN H.out.1.2.2.1 _⟩
          · have hd : (uy == nb) = false := by simpa using he
            have hnext : Hid (∀ j, j < i + 1 → (js j).user ≠ nob) := Lib.hid fun j hj => by
              by_cases c : j = i
              · rw [c, huy.out, hnb.out]; exact he
              · exact H.out.2 j (by omega)
            clear he
            go_upto_region 15 with fail
            go_quiet (fail)
            all_goals
              go_wp2_with fail
              go_roundg (n - (i + 1))
              case measure => omega
              case rel => exact ⟨i + 1, by omega, rfl, by go_num, Lib.hid ⟨H.out.1.drewN _, hnext.out⟩⟩
        · obtain rfl : n = i := by omega
          obtain ⟨B, hB⟩ : ∃ B, Hid (wr.heap.size = B) := ⟨_, Lib.hid rfl⟩
          have lv : w.heap.size < B := by rw [← hB.out]; exact H.out.1.2.2.2.1.lt
          have f0 : wr.cell? ⟨w.heap.size, 0, none⟩ = some (.int .i64 u0) := H.out.1.2.2.2.1.cell rfl
          have f1 : wr.cell? ⟨w.heap.size, 1, none⟩ = some (.int .i64 u1) := H.out.1.2.2.2.1.cell rfl
          have f2 : wr.cell? ⟨w.heap.size, 2, none⟩ = some (.int .i64 u2) := H.out.1.2.2.2.1.cell rfl
          have f3 : wr.cell? ⟨w.heap.size, 3, none⟩ = some (.int .i64 u3) := H.out.1.2.2.2.1.cell rfl
          have hm81 : m ≤ 1000 := by have := H.out.1.1.len; have := H.out.1.2.1.len; omega
          have CA := Lib.hid (show ∀ W, Below wr.heap.size wr W → _ from fun W hW => turns_raw (w := W) u0 u1 u2 u3 HU.out A1 nh k1 h A2 n k2 js (HH.out.keep (below_pass H.out.1.2.2.1 H.out.1.2.2.1.size hW)) (HJ.out.keep (below_pass H.out.1.2.2.1 H.out.1.2.2.1.size hW)) (by omega) (by omega))
          have CB := Lib.hid (show ∀ W, Below wr.heap.size wr W → Calls Try.prog 30 #[.agg #[.int .i64 u0, .int .i64 u1, .int .i64 u2, .int .i64 u3], .slice A m cap, .slice A2 n k2] W fun e w' => ∃ A c l, e = .returned (.slice A n c) ∧ FR w' W.heap.size (.slice A n c) l ∧ Turns ⟨v4 u0 u1 u2 u3, nh, h, n, js⟩ l ∧ Below W.heap.size W w' from fun W hW => (turns_raw (w := W) u0 u1 u2 u3 HU.out A m cap (fun q => l.getD q default) A2 n k2 js ((H.out.1.1.uses H.out.1.2.1.ok).keep hW) (HJ.out.keep (below_pass H.out.1.2.2.1 H.out.1.2.2.1.size hW)) hm81 (by omega)).mono fun e w' ⟨A, c, l', he, hF, hT, hb⟩ => ⟨A, c, l', he, hF, H.out.1.2.1.turns H.out.1.1.len H.out.2 hT, hb⟩)
          have C := Lib.hid (show ∀ W (X : Option Addr) (y z : Nat), ((X = A1 ∧ y = nh ∧ z = k1) ∨ (X = A ∧ y = m ∧ z = cap)) → Below wr.heap.size wr W → Calls Try.prog 30 #[.agg #[.int .i64 u0, .int .i64 u1, .int .i64 u2, .int .i64 u3], .slice X y z, .slice A2 n k2] W fun e w' => ∃ A c l, e = .returned (.slice A n c) ∧ FR w' W.heap.size (.slice A n c) l ∧ Turns ⟨v4 u0 u1 u2 u3, nh, h, n, js⟩ l ∧ Below W.heap.size W w' from fun W X y z hX hW => by
            rcases hX with ⟨rfl, rfl, rfl⟩ | ⟨rfl, rfl, rfl⟩
            · exact CA.out W hW
            · exact CB.out W hW)
          clear CA CB
          have hst : Below wr.heap.size wr wr.drew ∧ B ≤ wr.drew.heap.size ∧ ∀ b o, b < B → wr.drew.cell? ⟨b, o, none⟩ = wr.cell? ⟨b, o, none⟩ := ⟨(Below.refl _ _).drew, by rw [← hB.out]; exact Nat.le_refl _, fun _ _ _ => rfl⟩
          go_upto_region 17 with fail
          go_region_held3 (fun w' => Below wr.heap.size wr w' ∧ B ≤ w'.heap.size ∧ ∀ b o, b < B → w'.cell? ⟨b, o, none⟩ = wr.cell? ⟨b, o, none⟩) (first | exact hst | assumption | exact keepW (by assumption) (by assumption)) (first | (go_at_call 30; refine (C.out _ _ _ _ (by first | exact Or.inl ⟨rfl, rfl, rfl⟩ | exact Or.inr ⟨rfl, rfl, rfl⟩) (And.left (by assumption))).mono ?_; first | (have h9 := hFa; clear h9; rintro e w6 ⟨Ab, cb, llb, rfl, hFb, hTb, hbb⟩; replace hFb := Lib.hid hFb; replace hTb := Lib.hid hTb) | (rintro e w5 ⟨Aa, ca, lla, rfl, hFa, hTa, hba⟩; replace hFa := Lib.hid hFa; replace hTa := Lib.hid hTa)) | (go_at_call 24; obtain rfl : lla = llb := hTa.out.2.unique hTb.out.2 (hTa.out.1.trans hTb.out.1.symm); refine (same_any _ _ _ _ _ (fun j => ((lla.getD j 0 : Nat) : Int)) (by omega) _ (by first | exact (hFa.out.pass hbb).nums | exact hFb.out.nums) (by first | exact (hFa.out.pass hbb).nums | exact hFb.out.nums)).mono ?_; rintro e w7 ⟨rfl, hb7⟩))
          all_goals
            go_wp2_with fail
            go_ret
            exact ⟨rfl, below_pass H.out.1.2.2.1 H.out.1.2.2.1.size (And.left (by assumption))⟩
end Go.Proofs.Ytnjgkgnjbmfpfaa
