/- Walk of the document's Has: what a user has, with the needs of the jobs told. -/
import Derived.Test.YtnjgkgnjbmfpfaaAwo
namespace Go.Proofs.Ytnjgkgnjbmfpfaa
open Go.RowKit Go.Maps Go.Sort Ot

def vecC (a : Nat → Int) : Array Value := #[.int .i64 (a 0), .int .i64 (a 1), .int .i64 (a 2), .int .i64 (a 3)]

set_option maxRecDepth 100000 in
set_option maxHeartbeats 8000000 in
theorem rhas_any {w : World} (u : Str) (A1 : Option Addr) (nh k1 : Nat) (h : Nat → UD) (A2 : Option Addr) (n k2 : Nat) (js : Nat → JD) (A3 : Option Addr) (m k3 : Nat) (out : List Nat) (hh : UsesIn w A1 nh h) (hj : WantsIn w A2 n js) (ho : NumsAt w A3 m (fun j => ((out.getD j 0 : Nat) : Int))) (hm : m = out.length) (hlt : ∀ x ∈ out, x < n) (hnh : nh ≤ 1000) (hn : n ≤ 1000) (hm1 : m ≤ 1000) :
    Calls Try.prog 32 #[encStr u, .slice A1 nh k1, .slice A2 n k2, .slice A3 m k3] w fun e w' => e = .returned (vecV (hasT u js (hasB u h nh) out)) ∧ Below w.heap.size w w' := by
  have HH := Lib.hid hh
  have HJ := Lib.hid hj
  have HO := Lib.hid ho
  have HM := Lib.hid (show _ ∧ _ from ⟨hm, hlt⟩)
  have hn1 : (n : Int) ≤ 1000 := by omega
  have hm2 : (m : Int) ≤ 1000 := by omega
  have hn2 : (nh : Int) ≤ 1000 := by omega
  clear hh hj ho hm hlt
  go_enter Try.func32, Try.ntmps32
  go_wp2_with fail
  go_loopg [10] nh (fun g s10 wr => ∃ i : Nat, i ≤ nh ∧ g = nh - i ∧ s10 = .int .i64 i ∧ Hid (Bk wr w.heap.size 28 (vecC zero) ∧ Bk wr (w.heap.size + 1) 28 (vecC (hasB u h i)) ∧ Below w.heap.size w wr))
  case atStart => exact ⟨0, by omega, by omega, rfl, Lib.hid ⟨(Bk.new w _ _).alloc _, Bk.newAt (by simp), ((Below.refl _ _).alloc (Nat.le_refl _) _).alloc (by simp) _⟩⟩
  case round =>
    obtain ⟨i, hi, hg, rfl, H⟩ := hrel
    have i0 : (0 : Int) ≤ (i : Int) := by omega
    by_cases hin : i < nh
    · have hin' : (i : Int) < (nh : Int) := by omega
      obtain ⟨bl, off, rfl, hc⟩ := HH.out (by omega)
      have hat := (hc i hin).keep (H.out.2.2.block bl (hc i hin).lt)
      clear hc
      have q0 := hat.c0
      obtain ⟨uh, huh⟩ : ∃ v, Hid ((h i).user = v) := ⟨_, Lib.hid rfl⟩
      rw [huh.out] at q0
      by_cases he : uh = u
      · have hse : (uh == u) = true := by simp [he]
        have hstep : Hid (plus (hasB u h i) (h i).has = hasB u h (i + 1)) := Lib.hid (by
          show _ = if (h i).user = u then _ else _
          rw [if_pos (huh.out.trans he)])
        have hse2 : (u == u) = true := by simp
        subst he
        obtain ⟨cx0, hcx0⟩ : ∃ v, Hid ((hasB uh h i) 0 = v) := ⟨_, Lib.hid rfl⟩
        obtain ⟨cx1, hcx1⟩ : ∃ v, Hid ((hasB uh h i) 1 = v) := ⟨_, Lib.hid rfl⟩
        obtain ⟨cx2, hcx2⟩ : ∃ v, Hid ((hasB uh h i) 2 = v) := ⟨_, Lib.hid rfl⟩
        obtain ⟨cx3, hcx3⟩ : ∃ v, Hid ((hasB uh h i) 3 = v) := ⟨_, Lib.hid rfl⟩
        obtain ⟨cy0, hcy0⟩ : ∃ v, Hid (((h i).has) 0 = v) := ⟨_, Lib.hid rfl⟩
        obtain ⟨cy1, hcy1⟩ : ∃ v, Hid (((h i).has) 1 = v) := ⟨_, Lib.hid rfl⟩
        obtain ⟨cy2, hcy2⟩ : ∃ v, Hid (((h i).has) 2 = v) := ⟨_, Lib.hid rfl⟩
        obtain ⟨cy3, hcy3⟩ : ∃ v, Hid (((h i).has) 3 = v) := ⟨_, Lib.hid rfl⟩
        obtain ⟨cz0, hcz0⟩ : ∃ v, Hid ((plus (hasB uh h i) ((h i).has)) 0 = v) := ⟨_, Lib.hid rfl⟩
        obtain ⟨cz1, hcz1⟩ : ∃ v, Hid ((plus (hasB uh h i) ((h i).has)) 1 = v) := ⟨_, Lib.hid rfl⟩
        obtain ⟨cz2, hcz2⟩ : ∃ v, Hid ((plus (hasB uh h i) ((h i).has)) 2 = v) := ⟨_, Lib.hid rfl⟩
        obtain ⟨cz3, hcz3⟩ : ∃ v, Hid ((plus (hasB uh h i) ((h i).has)) 3 = v) := ⟨_, Lib.hid rfl⟩
        have C := Lib.hid (fun W => rplus_any (hasB uh h i) ((h i).has) W)
        unfold vecV at C
        rw [hcx0.out, hcx1.out, hcx2.out, hcx3.out, hcy0.out, hcy1.out, hcy2.out, hcy3.out, hcz0.out, hcz1.out, hcz2.out, hcz3.out] at C
        have b0 := hat.c1
        rw [hcy0.out] at b0
        have b1 := hat.c2
        rw [hcy1.out] at b1
        have b2 := hat.c3
        rw [hcy2.out] at b2
        have b3 := hat.c4
        rw [hcy3.out] at b3
        have hv := H.out.2.1
        unfold vecC at hv
        rw [hcx0.out, hcx1.out, hcx2.out, hcx3.out] at hv
        have a0 : wr.cell? ⟨w.heap.size + 1, 0, none⟩ = some (.int .i64 cx0) := hv.cell rfl
        have a1 : wr.cell? ⟨w.heap.size + 1, 1, none⟩ = some (.int .i64 cx1) := hv.cell rfl
        have a2 : wr.cell? ⟨w.heap.size + 1, 2, none⟩ = some (.int .i64 cx2) := hv.cell rfl
        have a3 : wr.cell? ⟨w.heap.size + 1, 3, none⟩ = some (.int .i64 cx3) := hv.cell rfl
        have HV := Lib.hid hv
        clear hat hv
        go_upto_region 6 with fail
        go_region_with (go_at_call 29; refine (C.out _).mono ?_; rintro e w3 ⟨rfl, hb⟩; have hV3 := HV.out.drew.pass hb; have g0 := hV3.cell (i := 0) rfl; have g1 := hV3.cell (i := 1) rfl; have g2 := hV3.cell (i := 2) rfl; have g3' := hV3.cell (i := 3) rfl; have h0 := hV3.free 0; have h1 := hV3.free 1; have h2 := hV3.free 2; have h3 := hV3.free 3)
        all_goals
          go_wp2_with fail
          have hnx : Hid (vecC (hasB uh h (i + 1)) = #[.int .i64 cz0, .int .i64 cz1, .int .i64 cz2, .int .i64 cz3]) := Lib.hid (by rw [← hstep.out]; unfold vecC; rw [hcz0.out, hcz1.out, hcz2.out, hcz3.out])
          have hB3 := below_pass H.out.2.2.drew H.out.2.2.size hb
          go_roundg (nh - (i + 1))
          case measure => omega
          case rel => exact ⟨i + 1, by omega, rfl, by go_num, Lib.hid ⟨((((H.out.1.drew.pass hb).far (by dsimp only; omega) _).far (by dsimp only; omega) _).far (by dsimp only; omega) _).far (by dsimp only; omega) _, by rw [hnx.out]; exact (((hV3.set 0 _).set 1 _).set 2 _).set 3 _, (((hB3.setCell (by dsimp only; omega) _).setCell (by dsimp only; omega) _).setCell (by dsimp only; omega) _).setCell (by dsimp only; omega) _⟩⟩
      · have hse : (uh == u) = false := by simpa using he
        have hstep : Hid (hasB u h (i + 1) = hasB u h i) := Lib.hid (by
          show (if (h i).user = u then _ else _) = _
          rw [if_neg (fun c => he (huh.out.symm.trans c))])
        clear hat he
        go_wp2_with fail
        go_roundg (nh - (i + 1))
        case measure => omega
        case rel => exact ⟨i + 1, by omega, rfl, by go_num, Lib.hid (by rw [hstep.out]; exact H.out)⟩
    · obtain rfl : nh = i := by omega
      have H0 := H
      clear H
      go_wp2_with fail
      rename World => wo
      go_loopg [11] m (fun g s11 wr => ∃ j : Nat, j ≤ m ∧ g = m - j ∧ s11 = .int .i64 j ∧ Hid (Bk wr w.heap.size 28 (vecC zero) ∧ Bk wr (w.heap.size + 1) 28 (vecC (hasT u js (hasB u h nh) (out.take j))) ∧ Below w.heap.size w wr))
      case atStart => exact ⟨0, by omega, by omega, rfl, H0⟩
      case round =>
        obtain ⟨i, hi2, hg2, rfl, H⟩ := hrel
        have i0 : (0 : Int) ≤ (i : Int) := by omega
        by_cases hin : i < m
        · have hin' : (i : Int) < (m : Int) := by omega
          obtain ⟨g3, o3, rfl, hc3⟩ := HO.out (by omega)
          have hlen := HM.out.1
          obtain ⟨y, hy⟩ : ∃ y, out[i]? = some y := ⟨_, List.getElem?_eq_getElem (by omega)⟩
          have hyd : out.getD i 0 = y := by rw [List.getD_eq_getElem?_getD, hy]; rfl
          have cy : wr.cell? ⟨g3, o3 + i, none⟩ = some (.int .i64 (y : Int)) := by
            have this : wr.cell? ⟨g3, o3 + i, none⟩ = some (.int .i64 ((out.getD i 0 : Nat) : Int)) := keep_below (hc3 i hin) H.out.2.2
            rw [hyd] at this
            exact this
          have hyn : y < n := HM.out.2 y (List.mem_of_getElem? hy)
          have hyn' : (y : Int) < (n : Int) := by omega
          have hy0 : (0 : Int) ≤ (y : Int) := by omega
          have htk := Lib.hid (show out.take (i + 1) = out.take i ++ [y] by rw [List.take_add_one, hy]; rfl)
          obtain ⟨bl, off, rfl, hc⟩ := HJ.out (by omega)
          have hat := (hc y hyn).keep (H.out.2.2.block bl (hc y hyn).lt)
          clear hc hc3 hy hyd hlen
          have q0 := hat.c1
          obtain ⟨uh, huh⟩ : ∃ v, Hid ((js y).user = v) := ⟨_, Lib.hid rfl⟩
          rw [huh.out] at q0
          by_cases he : uh = u
          · have hse : (uh == u) = true := by simp [he]
            have hstep : Hid (plus (hasT u js (hasB u h nh) (out.take i)) (js y).need = hasT u js (hasB u h nh) (out.take (i + 1))) := Lib.hid (by
              rw [htk.out, hasT_snoc, if_pos (huh.out.trans he)])
            have hse2 : (u == u) = true := by simp
            subst he
            obtain ⟨cx0, hcx0⟩ : ∃ v, Hid ((hasT uh js (hasB uh h nh) (out.take i)) 0 = v) := ⟨_, Lib.hid rfl⟩
            obtain ⟨cx1, hcx1⟩ : ∃ v, Hid ((hasT uh js (hasB uh h nh) (out.take i)) 1 = v) := ⟨_, Lib.hid rfl⟩
            obtain ⟨cx2, hcx2⟩ : ∃ v, Hid ((hasT uh js (hasB uh h nh) (out.take i)) 2 = v) := ⟨_, Lib.hid rfl⟩
            obtain ⟨cx3, hcx3⟩ : ∃ v, Hid ((hasT uh js (hasB uh h nh) (out.take i)) 3 = v) := ⟨_, Lib.hid rfl⟩
            obtain ⟨cy0, hcy0⟩ : ∃ v, Hid (((js y).need) 0 = v) := ⟨_, Lib.hid rfl⟩
            obtain ⟨cy1, hcy1⟩ : ∃ v, Hid (((js y).need) 1 = v) := ⟨_, Lib.hid rfl⟩
            obtain ⟨cy2, hcy2⟩ : ∃ v, Hid (((js y).need) 2 = v) := ⟨_, Lib.hid rfl⟩
            obtain ⟨cy3, hcy3⟩ : ∃ v, Hid (((js y).need) 3 = v) := ⟨_, Lib.hid rfl⟩
            obtain ⟨cz0, hcz0⟩ : ∃ v, Hid ((plus (hasT uh js (hasB uh h nh) (out.take i)) ((js y).need)) 0 = v) := ⟨_, Lib.hid rfl⟩
            obtain ⟨cz1, hcz1⟩ : ∃ v, Hid ((plus (hasT uh js (hasB uh h nh) (out.take i)) ((js y).need)) 1 = v) := ⟨_, Lib.hid rfl⟩
            obtain ⟨cz2, hcz2⟩ : ∃ v, Hid ((plus (hasT uh js (hasB uh h nh) (out.take i)) ((js y).need)) 2 = v) := ⟨_, Lib.hid rfl⟩
            obtain ⟨cz3, hcz3⟩ : ∃ v, Hid ((plus (hasT uh js (hasB uh h nh) (out.take i)) ((js y).need)) 3 = v) := ⟨_, Lib.hid rfl⟩
            have C := Lib.hid (fun W => rplus_any (hasT uh js (hasB uh h nh) (out.take i)) ((js y).need) W)
            unfold vecV at C
            rw [hcx0.out, hcx1.out, hcx2.out, hcx3.out, hcy0.out, hcy1.out, hcy2.out, hcy3.out, hcz0.out, hcz1.out, hcz2.out, hcz3.out] at C
            have b0 := hat.c3
            rw [hcy0.out] at b0
            have b1 := hat.c4
            rw [hcy1.out] at b1
            have b2 := hat.c5
            rw [hcy2.out] at b2
            have b3 := hat.c6
            rw [hcy3.out] at b3
            have hv := H.out.2.1
            unfold vecC at hv
            rw [hcx0.out, hcx1.out, hcx2.out, hcx3.out] at hv
            have a0 : wr.cell? ⟨w.heap.size + 1, 0, none⟩ = some (.int .i64 cx0) := hv.cell rfl
            have a1 : wr.cell? ⟨w.heap.size + 1, 1, none⟩ = some (.int .i64 cx1) := hv.cell rfl
            have a2 : wr.cell? ⟨w.heap.size + 1, 2, none⟩ = some (.int .i64 cx2) := hv.cell rfl
            have a3 : wr.cell? ⟨w.heap.size + 1, 3, none⟩ = some (.int .i64 cx3) := hv.cell rfl
            have HV := Lib.hid hv
            clear hat hv
            go_upto_region 11 with fail
            go_region_with (go_at_call 29; refine (C.out _).mono ?_; rintro e w3 ⟨rfl, hb⟩; have hV3 := HV.out.drew.pass hb; have g0 := hV3.cell (i := 0) rfl; have g1 := hV3.cell (i := 1) rfl; have g2 := hV3.cell (i := 2) rfl; have g3' := hV3.cell (i := 3) rfl; have h0 := hV3.free 0; have h1 := hV3.free 1; have h2 := hV3.free 2; have h3 := hV3.free 3)
            all_goals
              go_wp2_with fail
              have hnx : Hid (vecC (hasT uh js (hasB uh h nh) (out.take (i + 1))) = #[.int .i64 cz0, .int .i64 cz1, .int .i64 cz2, .int .i64 cz3]) := Lib.hid (by rw [← hstep.out]; unfold vecC; rw [hcz0.out, hcz1.out, hcz2.out, hcz3.out])
              have hB3 := below_pass H.out.2.2.drew H.out.2.2.size hb
              go_roundg (m - (i + 1))
              case measure => omega
              case rel => exact ⟨i + 1, by omega, rfl, by go_num, Lib.hid ⟨((((H.out.1.drew.pass hb).far (by dsimp only; omega) _).far (by dsimp only; omega) _).far (by dsimp only; omega) _).far (by dsimp only; omega) _, by rw [hnx.out]; exact (((hV3.set 0 _).set 1 _).set 2 _).set 3 _, (((hB3.setCell (by dsimp only; omega) _).setCell (by dsimp only; omega) _).setCell (by dsimp only; omega) _).setCell (by dsimp only; omega) _⟩⟩
          · have hse : (uh == u) = false := by simpa using he
            have hstep : Hid (hasT u js (hasB u h nh) (out.take (i + 1)) = hasT u js (hasB u h nh) (out.take i)) := Lib.hid (by
              rw [htk.out, hasT_snoc, if_neg (fun c => he (huh.out.symm.trans c))])
            clear hat he
            go_wp2_with fail
            go_roundg (m - (i + 1))
            case measure => omega
            case rel => exact ⟨i + 1, by omega, rfl, by go_num, Lib.hid (by rw [hstep.out]; exact H.out)⟩
        · obtain rfl : m = i := by omega
          have htk : out.take m = out := List.take_of_length_le (by rw [← HM.out.1]; exact Nat.le_refl _)
          have H2 := H.out
          rw [htk] at H2
          have HF := Lib.hid H2
          clear H2
          have hv := HF.out.2.1
          unfold vecC at hv
          obtain ⟨p0, hp0⟩ : ∃ v, Hid (hasT u js (hasB u h nh) out 0 = v) := ⟨_, Lib.hid rfl⟩
          obtain ⟨p1, hp1⟩ : ∃ v, Hid (hasT u js (hasB u h nh) out 1 = v) := ⟨_, Lib.hid rfl⟩
          obtain ⟨p2, hp2⟩ : ∃ v, Hid (hasT u js (hasB u h nh) out 2 = v) := ⟨_, Lib.hid rfl⟩
          obtain ⟨p3, hp3⟩ : ∃ v, Hid (hasT u js (hasB u h nh) out 3 = v) := ⟨_, Lib.hid rfl⟩
          rw [hp0.out, hp1.out, hp2.out, hp3.out] at hv
          have d0 : wr.cell? ⟨w.heap.size + 1, 0, none⟩ = some (.int .i64 p0) := hv.cell rfl
          have d1 : wr.cell? ⟨w.heap.size + 1, 1, none⟩ = some (.int .i64 p1) := hv.cell rfl
          have d2 : wr.cell? ⟨w.heap.size + 1, 2, none⟩ = some (.int .i64 p2) := hv.cell rfl
          have d3 : wr.cell? ⟨w.heap.size + 1, 3, none⟩ = some (.int .i64 p3) := hv.cell rfl
          have z0 : wr.cell? ⟨w.heap.size, 0, none⟩ = some (.int .i64 0) := HF.out.1.cell rfl
          have z1 : wr.cell? ⟨w.heap.size, 1, none⟩ = some (.int .i64 0) := HF.out.1.cell rfl
          have z2 : wr.cell? ⟨w.heap.size, 2, none⟩ = some (.int .i64 0) := HF.out.1.cell rfl
          have z3 : wr.cell? ⟨w.heap.size, 3, none⟩ = some (.int .i64 0) := HF.out.1.cell rfl
          have f0 := HF.out.1.free 0
          have f1 := HF.out.1.free 1
          have f2 := HF.out.1.free 2
          have f3 := HF.out.1.free 3
          have hB := HF.out.2.2
          clear hv
          go_wp2_with fail
          exact bodyPost_ret (v := .agg #[.int .i64 p0, .int .i64 p1, .int .i64 p2, .int .i64 p3]) (by simp [results, Try.results32, go_sem, z0, z1, z2, z3]) rfl ⟨by unfold vecV; rw [hp0.out, hp1.out, hp2.out, hp3.out], (((hB.setCell (by dsimp only; omega) _).setCell (by dsimp only; omega) _).setCell (by dsimp only; omega) _).setCell (by dsimp only; omega) _⟩
end Go.Proofs.Ytnjgkgnjbmfpfaa
