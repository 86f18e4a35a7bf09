/- Walk of OrderWhole. -/
import Derived.Test.YtnjgkgnjbmfpfaaAwo
import Derived.Test.YtnjgkgnjbmfpfaaIn
import Derived.Test.YtnjgkgnjbmfpfaaRowD
namespace Go.Proofs.Ytnjgkgnjbmfpfaa
open Go.RowKit Go.Maps Go.Sort Ot

theorem str_same (a : Str) : ((⟨a.toArray⟩ : ByteArray).toList == (⟨a.toArray⟩ : ByteArray).toList) = true := by simp
theorem str_other {a b : Str} (h : a ≠ b) : ((⟨a.toArray⟩ : ByteArray).toList == (⟨b.toArray⟩ : ByteArray).toList) = false := by
  rw [ByteArray.toList_eq, ByteArray.toList_eq]
  simpa using h
theorem turns_raw {w : World} (u0 u1 u2 u3 : Int) (hu : In64 u0 ∧ In64 u1 ∧ In64 u2 ∧ In64 u3) (A1 : Option Addr) (nh k1 : Nat) (h : Nat → UD) (A2 : Option Addr) (n k2 : Nat) (js : Nat → JD) (hh : UsesIn w A1 nh h) (hj : WantsIn w A2 n js) (hnh : nh ≤ 1000) (hn : n ≤ 1000) :
    Calls Try.prog 30 #[.agg #[.int .i64 u0, .int .i64 u1, .int .i64 u2, .int .i64 u3], .slice A1 nh k1, .slice A2 n k2] w fun e w' => ∃ A c l, e = .returned (.slice A n c) ∧ FR w' w.heap.size (.slice A n c) l ∧ Turns ⟨v4 u0 u1 u2 u3, nh, h, n, js⟩ l ∧ Below w.heap.size w w' :=
  turns_any ⟨v4 u0 u1 u2 u3, nh, h, n, js⟩ A1 k1 A2 k2 (v4_in _ _ _ _ hu) hh hj hnh hn

set_option maxRecDepth 100000 in
set_option maxHeartbeats 8000000 in
theorem walk_OrderWhole (u0 u1 u2 u3 : Int) (A1 : Option Addr) (nh k1 : Nat) (A2 : Option Addr) (n k2 : Nat) (hu : In64 u0 ∧ In64 u1 ∧ In64 u2 ∧ In64 u3) {w : World} (hh : ∃ f, UsesIn w A1 nh f) (hj : ∃ f, WantsIn w A2 n f) :
    Calls Try.prog 11 #[.agg #[.int .i64 u0, .int .i64 u1, .int .i64 u2, .int .i64 u3], .slice A1 nh k1, .slice A2 n k2] w fun e w' => e = .returned (.bool true) ∧ Below w.heap.size w w' := by
  obtain ⟨h, hh⟩ := hh
  obtain ⟨js, hj⟩ := hj
  have HU := Lib.hid hu
  have HH := Lib.hid hh
  have HJ := Lib.hid hj
  clear hh hj hu
  go_enter Try.func11, Try.ntmps11
  go_wp2_with fail
  refine (awake_any _).mono ?_
  rintro e w1 ⟨rfl, B1⟩
  have K3 : Bk w1 w.heap.size 28 #[.int .i64 u0, .int .i64 u1, .int .i64 u2, .int .i64 u3] := (Bk.new w _ _).pass B1
  have HB1 := Lib.hid (((Below.refl w.heap.size w).alloc (Nat.le_refl _) _).trans (B1.mono (by simp)))
  clear B1
  have c0 : w1.cell? ⟨w.heap.size, 0, none⟩ = some (.int .i64 u0) := K3.cell rfl
  have c1 : w1.cell? ⟨w.heap.size, 1, none⟩ = some (.int .i64 u1) := K3.cell rfl
  have c2 : w1.cell? ⟨w.heap.size, 2, none⟩ = some (.int .i64 u2) := K3.cell rfl
  have c3 : w1.cell? ⟨w.heap.size, 3, none⟩ = some (.int .i64 u3) := K3.cell rfl
  by_cases hb1 : 40 < nh
  · have hb1' : (40 : Int) < (nh : Int) := by omega
    go_wp2_with fail
    go_ret
    exact ⟨rfl, HB1.out⟩
  by_cases hb2 : 60 < n
  · have hb1' : (nh : Int) ≤ 40 := by omega
    have hb2' : (60 : Int) < (n : Int) := by omega
    go_wp2_with fail
    go_ret
    exact ⟨rfl, HB1.out⟩
  have hb1' : (nh : Int) ≤ 40 := by omega
  have hb2' : (n : Int) ≤ 60 := by omega
  have C := Lib.hid (turns_raw u0 u1 u2 u3 HU.out A1 nh k1 h A2 n k2 js (HH.out.keep HB1.out) (HJ.out.keep HB1.out) (by omega) (by omega))
  go_wp2_with fail
  refine C.out.mono ?_
  rintro e w2 ⟨A, c, l, rfl, hF, hT, B2⟩
  have H2 := Lib.hid (show _ ∧ _ ∧ _ from ⟨hF, hT, below_pass HB1.out HB1.out.size B2⟩)
  clear hF hT B2 C K3 c0 c1 c2 c3
  go_wp2_with fail
  rename World => wa
  go_loopg [9] n (fun g s9 wr => ∃ i : Nat, i ≤ n ∧ g = n - i ∧ s9 = .int .i64 i ∧ Hid (FR wr w1.heap.size (.slice A n c) l ∧ Below w.heap.size w wr))
  case atStart => exact ⟨0, by omega, by omega, rfl, Lib.hid ⟨H2.out.1, H2.out.2.2⟩⟩
  case round =>
    obtain ⟨i, hi, hg, rfl, H⟩ := hrel
    have i0 : (0 : Int) ≤ (i : Int) := by omega
    have hlen := Lib.hid H.out.1.len
    by_cases hlt : i < n
    · have hlt' : (i : Int) < (n : Int) := by omega
      obtain ⟨y, hy⟩ : ∃ y, l[i]? = some y := ⟨_, List.getElem?_eq_getElem (by rw [← hlen.out]; exact hlt)⟩
      obtain ⟨g1, o1, rfl, ca⟩ := H.out.1.cellAt hy
      have hNx := H2.out.2.1.2 i y hy
      have hyn : (y : Int) < (n : Int) := by have := hNx.1; show (y : Int) < (n : Int); exact Int.ofNat_lt.2 this
      have hy0 : (0 : Int) ≤ (y : Int) := by omega
      have hcap : (n : Int) ≤ (c : Int) := by
        rcases H.out.1 with ⟨e, _⟩ | ⟨g, o, cap, cs, e, _, _, h4, _⟩
        · simp only [Value.slice.injEq] at e
          cases e.1
        · simp only [Value.slice.injEq] at e
          have := e.2.2
          have := hlen.out
          omega
      have CI := Lib.hid (in_any (some ⟨g1, o1, none⟩) i c (fun j => (((l.take i).getD j 0 : Nat) : Int)) (y : Int) false ⟨fun h => (by cases h), fun ⟨j, hj, e⟩ => by
        exfalso
        have hj2 : j < (l.take i).length := by rw [List.length_take, ← hlen.out]; omega
        refine hNx.2.1 ?_
        have : (l.take i).getD j 0 = y := by have e' : (((l.take i).getD j 0 : Nat) : Int) = (y : Int) := e; omega
        rw [← this, List.getD_eq_getElem?_getD, List.getElem?_eq_getElem hj2]
        exact List.getElem_mem hj2⟩ (by omega) wr.drew ((H.out.1.take (k := i) (by omega)).nums))
      have HY := Lib.hid (show _ ∧ _ from ⟨hy, hNx⟩)
      have hin : (i : Int) ≤ (n : Int) := by omega
      have hic : (i : Int) ≤ (c : Int) := by omega
      have hd0 : decide ((y : Int) < 0) = false := by simp
      have hd1 : decide (n ≤ y) = false := by simp; omega
      clear hy hNx
      go_upto_region 12 with fail
      go_region_held3 (fun w' => w'.cell? ⟨g1, o1 + i, none⟩ = some (.int .i64 (y : Int))) (first | exact ca | assumption) (first | (go_at_call 31; refine CI.out.mono ?_; rintro e w' ⟨rfl, rfl⟩))
      all_goals
        go_wp2_with fail
        rename World => wo
        go_loopg [10] i (fun g s10 wi => ∃ k : Nat, k ≤ i ∧ g = i - k ∧ s10 = .int .i64 k ∧ Hid (FR wi w1.heap.size (.slice (some ⟨g1, o1, none⟩) n c) l ∧ Below w.heap.size w wi))
        case atStart => exact ⟨0, by omega, by omega, rfl, Lib.hid ⟨H.out.1.heap rfl, H.out.2.drew⟩⟩
        case round =>
          obtain ⟨k, hk, hg2, rfl, H3⟩ := hrel
          have k0 : (0 : Int) ≤ (k : Int) := by omega
          by_cases hki : k < i
          · have hki' : (k : Int) < (i : Int) := by omega
            have hkn' : (k : Int) < (n : Int) := by omega
            obtain ⟨z, hz⟩ : ∃ z, l[k]? = some z := ⟨_, List.getElem?_eq_getElem (by rw [← hlen.out]; omega)⟩
            have hNz := H2.out.2.1.2 k z hz
            have hzn : (z : Int) < (n : Int) := by have := hNz.1; exact Int.ofNat_lt.2 this
            have hz0 : (0 : Int) ≤ (z : Int) := by omega
            obtain ⟨g', o', e', ca2⟩ := H3.out.1.cellAt HY.out.1
            obtain ⟨g'', o'', e'', cz⟩ := H3.out.1.cellAt hz
            simp only [Option.some.injEq, Addr.mk.injEq] at e' e''
            obtain ⟨rfl, rfl, _⟩ := e'
            obtain ⟨rfl, rfl, _⟩ := e''
            obtain ⟨bl, off, rfl, hc⟩ := HJ.out (by omega)
            have ay := (hc y (by omega)).keep (H3.out.2.block bl (hc y (by omega)).lt)
            have az := (hc z (by omega)).keep (H3.out.2.block bl (hc z (by omega)).lt)
            have z0 := az.c0
            have z1 := az.c1
            have z2 := az.c2
            have z3 := az.c3
            have z4 := az.c4
            have z5 := az.c5
            have z6 := az.c6
            have HA := Lib.hid (show _ ∧ _ ∧ _ ∧ _ from ⟨ay, az, ca2, cz⟩)
            have HN := Lib.hid (show _ ∧ _ from ⟨hz, hNz⟩)
            clear ay az ca2 hz hNz hc
            go_upto_region 18 with fail
            go_cut [12] (fun s12 wx => ∃ gb, s12 = .pointer (some ⟨gb, 0, none⟩) ∧ Hid (Bk wx wr.heap.size 50 (wantCells (js z)) ∧ Bk wx gb 50 (wantCells (js y)) ∧ wx.cell? ⟨g1, o1 + i, none⟩ = some (.int .i64 (y : Int)) ∧ wx.cell? ⟨g1, o1 + k, none⟩ = some (.int .i64 (z : Int)) ∧ Below wr.heap.size wr wx))
            case first =>
              have y0 := fun o => keep_alloc (o := o) HA.out.1.c0
              have y1 := fun o => keep_alloc (o := o) HA.out.1.c1
              have y2 := fun o => keep_alloc (o := o) HA.out.1.c2
              have y3 := fun o => keep_alloc (o := o) HA.out.1.c3
              have y4 := fun o => keep_alloc (o := o) HA.out.1.c4
              have y5 := fun o => keep_alloc (o := o) HA.out.1.c5
              have y6 := fun o => keep_alloc (o := o) HA.out.1.c6
              have ca3 := fun o => keep_alloc (o := o) HA.out.2.2.1
              go_wp2_with fail
              go_meet
              exact ⟨_, rfl, Lib.hid ⟨(Bk.new wr _ _).alloc _, Bk.newAt (by simp), keep_alloc (keep_alloc HA.out.2.2.1), keep_alloc (keep_alloc HA.out.2.2.2), ((Below.refl _ _).alloc (Nat.le_refl _) _).alloc (by simp) _⟩⟩
            case rest =>
              obtain ⟨gb, rfl, HC⟩ := hcut
              clear z0 z1 z2 z3 z4 z5 z6 cz
              obtain ⟨rr, hrr⟩ : ∃ r, wr.heap.size = r := ⟨_, rfl⟩
              have KA := HC.out.1
              rw [hrr] at KA
              have KB := HC.out.2.1
              have ci := HC.out.2.2.1
              have ck := HC.out.2.2.2.1
              obtain ⟨uz, huz⟩ : ∃ x, Hid ((js z).user = x) := ⟨_, Lib.hid rfl⟩
              obtain ⟨uy, huy⟩ : ∃ x, Hid ((js y).user = x) := ⟨_, Lib.hid rfl⟩
              obtain ⟨pz, hpz⟩ : ∃ x, Hid ((js z).prio = x) := ⟨_, Lib.hid rfl⟩
              obtain ⟨py, hpy⟩ : ∃ x, Hid ((js y).prio = x) := ⟨_, Lib.hid rfl⟩
              obtain ⟨iz, hiz⟩ : ∃ x, Hid ((js z).id = x) := ⟨_, Lib.hid rfl⟩
              obtain ⟨iy, hiy⟩ : ∃ x, Hid ((js y).id = x) := ⟨_, Lib.hid rfl⟩
              unfold wantCells at KA KB
              rw [huz.out, hpz.out, hiz.out] at KA
              rw [huy.out, hpy.out, hiy.out] at KB
              have a0 : wc.cell? ⟨rr, 0, none⟩ = some (.int .i64 iz) := KA.cell rfl
              have a1 : wc.cell? ⟨rr, 1, none⟩ = some (encStr uz) := KA.cell rfl
              have a2 : wc.cell? ⟨rr, 2, none⟩ = some (.int .i64 pz) := KA.cell rfl
              have b0 : wc.cell? ⟨gb, 0, none⟩ = some (.int .i64 iy) := KB.cell rfl
              have b1 : wc.cell? ⟨gb, 1, none⟩ = some (encStr uy) := KB.cell rfl
              have b2 : wc.cell? ⟨gb, 2, none⟩ = some (.int .i64 py) := KB.cell rfl
              have hnext : Hid (FR wc w1.heap.size (.slice (some ⟨g1, o1, none⟩) n c) l ∧ Below w.heap.size w wc) := Lib.hid ⟨H3.out.1.pass HC.out.2.2.2.2, below_pass H3.out.2 H3.out.2.size HC.out.2.2.2.2⟩
              have hpr : uz = uy → (py < pz ∨ (py = pz ∧ (iz < iy ∨ (iz = iy ∧ (z : Int) < (y : Int))))) := fun e => by
                have hl := HN.out.2.2.2 y (show y < n by omega) (fun c => HY.out.2.2.1 (by
                  have : l.take k = (l.take i).take k := by rw [List.take_take, Nat.min_eq_left (by omega)]
                  rw [this] at c
                  exact List.mem_of_mem_take c)) (fun c => by
                  have hnd := H2.out.2.1.2.nodup
                  have hk2 : k < l.length := by rw [← hlen.out]; omega
                  have hi2 : i < l.length := by rw [← hlen.out]; omega
                  obtain ⟨_, e1⟩ := List.getElem?_eq_some_iff.1 HN.out.1
                  obtain ⟨_, e2⟩ := List.getElem?_eq_some_iff.1 HY.out.1
                  have := (List.getElem_inj hnd).1 (e2.trans (c.trans e1.symm))
                  omega)
                have hl2 : prJ js (z : Int) (y : Int) := by
                  rcases hl with ⟨h1, _⟩ | ⟨_, h1⟩
                  · exact absurd (huz.out.trans (e.trans huy.out.symm)) h1
                  · exact h1
                rw [prJ_iff] at hl2
                simp only [Int.toNat_natCast] at hl2
                rw [hpz.out, hpy.out, hiz.out, hiy.out] at hl2
                exact hl2
              clear KA KB
              by_cases he : uz = uy
              · have hp := hpr he
                clear hpr
                subst he
                have hse : (uz == uz) = true := by simp
                rcases hp with hp | ⟨rfl, hp | ⟨rfl, hp⟩⟩
                · have hd1 : decide (pz < py) = false := by simp; omega
                  have hd2 : (pz == py) = false := by simp; omega
                  clear hp
                  go_upto_region 19 with fail
                  go_quiet (fail)
                  all_goals
                    go_wp2_with fail
                    go_roundg (i - (k + 1))
                    case measure => omega
                    case rel => exact ⟨k + 1, by omega, rfl, by go_num, Lib.hid ⟨hnext.out.1.heap rfl, below_drewN hnext.out.2 _⟩⟩
                · have hd1 : decide (py < py) = false := by simp
                  have hd2 : (py == py) = true := by simp
                  have hd3 : decide (iy < iz) = false := by simp; omega
                  have hd4 : (iz == iy) = false := by simp; omega
                  clear hp
                  go_upto_region 19 with fail
                  go_quiet (fail)
                  all_goals
                    go_wp2_with fail
                    go_roundg (i - (k + 1))
                    case measure => omega
                    case rel => exact ⟨k + 1, by omega, rfl, by go_num, Lib.hid ⟨hnext.out.1.heap rfl, below_drewN hnext.out.2 _⟩⟩
                · have hd1 : decide (py < py) = false := by simp
                  have hd2 : (py == py) = true := by simp
                  have hd3 : decide (iz < iz) = false := by simp
                  have hd4 : (iz == iz) = true := by simp
                  have hd5 : decide (y < z) = false := by simp; omega
                  clear hp
                  go_upto_region 19 with fail
                  go_region_held3 (fun w' => w'.cell? ⟨rr, 0, none⟩ = some (.int .i64 iz) ∧ w'.cell? ⟨rr, 1, none⟩ = some (encStr uz) ∧ w'.cell? ⟨rr, 2, none⟩ = some (.int .i64 py) ∧ w'.cell? ⟨gb, 0, none⟩ = some (.int .i64 iz) ∧ w'.cell? ⟨gb, 1, none⟩ = some (encStr uz) ∧ w'.cell? ⟨gb, 2, none⟩ = some (.int .i64 py) ∧ w'.cell? ⟨g1, o1 + i, none⟩ = some (.int .i64 (y : Int)) ∧ w'.cell? ⟨g1, o1 + k, none⟩ = some (.int .i64 (z : Int))) (first | exact ⟨a0, a1, a2, b0, b1, b2, ci, ck⟩ | assumption) (fail)
                  all_goals
                    go_wp2_with fail
                    go_roundg (i - (k + 1))
                    case measure => omega
                    case rel => exact ⟨k + 1, by omega, rfl, by go_num, Lib.hid ⟨hnext.out.1.heap rfl, hnext.out.2.drew⟩⟩
              · have hse : (uz == uy) = false := by simpa using he
                clear hpr he
                go_upto_region 19 with fail
                go_quiet (fail)
                all_goals
                  go_wp2_with fail
                  go_roundg (i - (k + 1))
                  case measure => omega
                  case rel => exact ⟨k + 1, by omega, rfl, by go_num, Lib.hid ⟨hnext.out.1.heap rfl, below_drewN hnext.out.2 _⟩⟩
          · obtain rfl : i = k := by omega
            go_wp2_with fail
            go_roundg (n - (i + 1))
            case measure => omega
            case rel => exact ⟨i + 1, by omega, rfl, by go_num, H3⟩
    · obtain rfl : n = i := by omega
      go_wp2_with fail
      go_ret
      exact ⟨rfl, H.out.2⟩
end Go.Proofs.Ytnjgkgnjbmfpfaa
