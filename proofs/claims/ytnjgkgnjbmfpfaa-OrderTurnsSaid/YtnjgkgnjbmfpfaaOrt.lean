/- The walk of the document's Turns. -/
import Derived.Test.YtnjgkgnjbmfpfaaOfa
import Derived.Test.YtnjgkgnjbmfpfaaOah
import Derived.Test.YtnjgkgnjbmfpfaaOtp
import Derived.Sort.Walk0
namespace Go.Proofs.Ytnjgkgnjbmfpfaa
open Go.RowKit Go.Maps Go.Sort Ot

theorem str_lt (a b : Str) : Op.bytesLess (⟨a.toArray⟩ : ByteArray).toList (⟨b.toArray⟩ : ByteArray).toList = decide (a < b) := by
  rw [ByteArray.toList_eq, ByteArray.toList_eq, bytesLess_eq]

theorem rt_store {W w : World} {lb b0 : Nat} {xn xd x y u0 u1 u2 u3 : Int} {v : Value} {out : List Nat} (K2 : Bk W lb 23 #[.int .i64 x, .int .i64 y]) (F : FR W b0 v out) (hv : ∀ g, v.ownBlock = some g → g < lb) (K4 : Bk W w.heap.size 28 #[.int .i64 u0, .int .i64 u1, .int .i64 u2, .int .i64 u3]) (hlw : w.heap.size < lb) (B : Below w.heap.size w W) :
    Bk ((W.setCell ⟨lb, 0, none⟩ (.int .i64 xn)).setCell ⟨lb, 1, none⟩ (.int .i64 xd)) lb 23 #[.int .i64 xn, .int .i64 xd] ∧ FR ((W.setCell ⟨lb, 0, none⟩ (.int .i64 xn)).setCell ⟨lb, 1, none⟩ (.int .i64 xd)) b0 v out ∧ Bk ((W.setCell ⟨lb, 0, none⟩ (.int .i64 xn)).setCell ⟨lb, 1, none⟩ (.int .i64 xd)) w.heap.size 28 #[.int .i64 u0, .int .i64 u1, .int .i64 u2, .int .i64 u3] ∧ Below w.heap.size w ((W.setCell ⟨lb, 0, none⟩ (.int .i64 xn)).setCell ⟨lb, 1, none⟩ (.int .i64 xd)) :=
  ⟨(K2.set 0 _).set 1 _, F.keep fun g hg _ => (Below.heap_setCell _ _ _ g (Nat.ne_of_lt (hv g hg))).trans (Below.heap_setCell _ _ _ g (Nat.ne_of_lt (hv g hg))), (K4.far (Nat.ne_of_lt hlw) _).far (Nat.ne_of_lt hlw) _, (B.setCell (Nat.le_of_lt hlw) _).setCell (Nat.le_of_lt hlw) _⟩

set_option maxRecDepth 100000 in
set_option maxHeartbeats 8000000 in
theorem rturns_any {w : World} (u0 u1 u2 u3 : Int) (hu : In64 u0 ∧ In64 u1 ∧ In64 u2 ∧ In64 u3) (A1 : Option Addr) (nh k1 : Nat) (h : Nat → UD) (A2 : Option Addr) (n k2 : Nat) (js : Nat → JD) (hh : UsesIn w A1 nh h) (hj : WantsIn w A2 n js) (hnh : nh ≤ 1000) (hn : n ≤ 1000) :
    Calls Try.prog 33 #[.agg #[.int .i64 u0, .int .i64 u1, .int .i64 u2, .int .i64 u3], .slice A1 nh k1, .slice A2 n k2] w fun e w' => ∃ A c l, e = .returned (.slice A n c) ∧ FR w' w.heap.size (.slice A n c) l ∧ Turns ⟨v4 u0 u1 u2 u3, nh, h, n, js⟩ l ∧ Below w.heap.size w w' := by
  have HU := Lib.hid hu
  have HH := Lib.hid hh
  have HJ := Lib.hid hj
  have hWH := Lib.hid (v4_in _ _ _ _ HU.out)
  have hwh : ∀ q, (Par.mk (v4 u0 u1 u2 u3) nh h n js).wh q ≤ 9223372036854775807 := fun q => (hWH.out q).2
  have hn' : (n : Int) ≤ 1000 := by omega
  have hnh' : (nh : Int) ≤ 1000 := by omega
  clear hh hj hu
  go_enter Try.func33, Try.ntmps33
  go_wp2_with fail
  go_loopg [7] n (fun g s7 wx => ∃ (k : Nat) (A7 : Option Addr) (c7 : Nat) (out : List Nat), k ≤ n ∧ g = n - k ∧ s7 = .slice A7 k c7 ∧ Hid (FR wx (w.heap.size + 1) (.slice A7 k c7) out ∧ Ot.Told (Par.mk (v4 u0 u1 u2 u3) nh h n js) out ∧ Bk wx w.heap.size 28 #[.int .i64 u0, .int .i64 u1, .int .i64 u2, .int .i64 u3] ∧ Below w.heap.size w wx))
  case atStart => exact ⟨0, none, 0, [], by omega, by omega, rfl, Lib.hid ⟨Or.inl ⟨rfl, rfl⟩, Ot.Told.nil, Bk.new w _ _, (Below.refl _ _).alloc (Nat.le_refl _) _⟩⟩
  case round =>
    obtain ⟨k, A7, c7, out, hk, hg, rfl, H⟩ := hrel
    have hlen := Lib.hid H.out.1.len
    by_cases hlt : k < n
    · have hlt' : (k : Int) < (n : Int) := by omega
      rename World => wo
      obtain ⟨lb, hlb⟩ : ∃ x, wo.heap.size = x := ⟨_, rfl⟩
      have hlw : w.heap.size < lb := by rw [← hlb]; exact H.out.2.2.1.lt
      have HT := Lib.hid H.out.2.1
      have hAl : ∀ g, (Value.slice A7 k c7).ownBlock = some g → g < lb := fun g hg => by rw [← hlb]; exact (H.out.1.lt g hg).2
      go_wp2_with fail
      go_loopg [8, 10] n (fun g s8 s10 wx => ∃ (i : Nat) (b x y : Int), i ≤ n ∧ g = n - i ∧ s8 = .int .i64 b ∧ s10 = .int .i64 i ∧ Hid (Bst (Par.mk (v4 u0 u1 u2 u3) nh h n js) out i b x y ∧ Bk wx lb 23 #[.int .i64 x, .int .i64 y] ∧ FR wx (w.heap.size + 1) (.slice A7 k c7) out ∧ Bk wx w.heap.size 28 #[.int .i64 u0, .int .i64 u1, .int .i64 u2, .int .i64 u3] ∧ Below w.heap.size w wx))
      case atStart => exact ⟨0, -1, 0, 0, by omega, by omega, rfl, rfl, Lib.hid ⟨Or.inl ⟨rfl, fun j hj => by omega, rfl, rfl⟩, Bk.newAt hlb, H.out.1.keep fun g hg hl => Below.heap_alloc wo _ g hl, H.out.2.2.1.alloc _, H.out.2.2.2.alloc H.out.2.2.2.size _⟩⟩
      case round =>
        obtain ⟨i, b, x, y, hi, hg2, rfl, rfl, H3⟩ := hrel
        have i0 : (0 : Int) ≤ (i : Int) := by omega
        by_cases hin : i < n
        · have hin' : (i : Int) < (n : Int) := by omega
          obtain ⟨bl, off, rfl, hc⟩ := HJ.out (by omega)
          have hat := (hc i hin).keep (H3.out.2.2.2.2.block bl (hc i hin).lt)
          obtain ⟨bm, hbm⟩ : ∃ b, Hid (out.contains i = b) := ⟨_, Lib.hid rfl⟩
          have CI := Lib.hid (in_any A7 k c7 (fun j => ((out.getD j 0 : Nat) : Int)) (i : Int) bm (by
            rw [← hbm.out, List.contains_iff_mem, List.mem_iff_getElem]
            constructor
            · rintro ⟨j, hj, e⟩
              exact ⟨j, by rw [hlen.out]; exact hj, by rw [List.getD_eq_getElem?_getD, List.getElem?_eq_getElem hj]; simp [e]⟩
            · rintro ⟨j, hj, e⟩
              have hj2 : j < out.length := by rw [← hlen.out]; exact hj
              refine ⟨j, hj2, ?_⟩
              rw [List.getD_eq_getElem?_getD, List.getElem?_eq_getElem hj2] at e
              have e' : ((out[j] : Nat) : Int) = (i : Int) := e
              omega) (by omega) wr H3.out.2.2.1.nums)
          cases bm with
          | true =>
            have hm : i ∈ out := List.contains_iff_mem.1 hbm.out
            have HS := Lib.hid (H3.out.1.skip hm)
            clear hm hat hc
            go_wp2_with fail
            refine CI.out.mono ?_
            rintro e w' ⟨rfl, rfl⟩
            go_wp2_with fail
            go_roundg (n - (i + 1))
            case measure => omega
            case rel => exact ⟨i + 1, b, x, y, by omega, rfl, rfl, by go_num, Lib.hid ⟨HS.out, H3.out.2⟩⟩
          | false =>
            have hm := Lib.hid (show i ∉ out from fun c => by
              have := List.contains_iff_mem.2 c
              rw [hbm.out] at this
              cases this)
            have cu := hat.c1
            have HF := Lib.hid H3.out.2.2.1
            have HB := Lib.hid H3.out.2.2.2.2
            have HK := Lib.hid H3.out.2.2.2.1
            have HHat := Lib.hid hat
            have HC := Lib.hid hc
            clear hat hc
            go_wp2_with fail
            refine CI.out.mono ?_
            rintro e w' ⟨rfl, rfl⟩
            have hrng := num_range (Par.mk (v4 u0 u1 u2 u3) nh h n js) hwh out (js i).user
            obtain ⟨xn, hxn⟩ : ∃ v, Hid (num (Par.mk (v4 u0 u1 u2 u3) nh h n js) out (js i).user = v) := ⟨_, Lib.hid rfl⟩
            obtain ⟨xd, hxd⟩ : ∃ v, Hid (den (Par.mk (v4 u0 u1 u2 u3) nh h n js) out (js i).user = v) := ⟨_, Lib.hid rfl⟩
            rw [hxn.out, hxd.out] at hrng
            obtain ⟨hr1, hr2⟩ := hrng
            have hnr : ∀ q, now (Par.mk (v4 u0 u1 u2 u3) nh h n js) out (js i).user q ≤ 9223372036854775807 := fun q => Int.le_trans (now_range (P := (Par.mk (v4 u0 u1 u2 u3) nh h n js)) out (js i).user q).2 (by unfold most; omega)
            have CD := Lib.hid (fun W => rdominant_any (now (Par.mk (v4 u0 u1 u2 u3) nh h n js) out (js i).user 0) (now (Par.mk (v4 u0 u1 u2 u3) nh h n js) out (js i).user 1) (now (Par.mk (v4 u0 u1 u2 u3) nh h n js) out (js i).user 2) (now (Par.mk (v4 u0 u1 u2 u3) nh h n js) out (js i).user 3) u0 u1 u2 u3 (hnr 0) (hnr 1) (hnr 2) (hnr 3) HU.out.1.2 HU.out.2.1.2 HU.out.2.2.1.2 HU.out.2.2.2.2 W)
            have eN : (Shr.dom (Shr.four (now (Par.mk (v4 u0 u1 u2 u3) nh h n js) out (js i).user 0) (now (Par.mk (v4 u0 u1 u2 u3) nh h n js) out (js i).user 1) (now (Par.mk (v4 u0 u1 u2 u3) nh h n js) out (js i).user 2) (now (Par.mk (v4 u0 u1 u2 u3) nh h n js) out (js i).user 3)) (Shr.four u0 u1 u2 u3)).n = xn := hxn.out
            have eD : (Shr.dom (Shr.four (now (Par.mk (v4 u0 u1 u2 u3) nh h n js) out (js i).user 0) (now (Par.mk (v4 u0 u1 u2 u3) nh h n js) out (js i).user 1) (now (Par.mk (v4 u0 u1 u2 u3) nh h n js) out (js i).user 2) (now (Par.mk (v4 u0 u1 u2 u3) nh h n js) out (js i).user 3)) (Shr.four u0 u1 u2 u3)).d = xd := hxd.out
            rw [eN, eD] at CD
            have CH := Lib.hid (fun (W : World) (hW : Below wr.heap.size wr W) => rhas_any (w := W) (js i).user A1 nh k1 h (some ⟨bl, off, none⟩) n k2 js A7 k c7 out ((HH.out.keep HB.out).keep hW) ((HJ.out.keep HB.out).keep hW) ((HF.out.pass hW).nums) hlen.out (fun x hx => HT.out.lt x hx) (by omega) (by omega) (by omega))
            have eH : vecV (hasT (js i).user js (hasB (js i).user h nh) out) = vecV (now (Par.mk (v4 u0 u1 u2 u3) nh h n js) out (js i).user) := rfl
            rw [eH] at CH
            unfold vecV at CH
            obtain ⟨x0, hx0⟩ : ∃ v, Hid (now (Par.mk (v4 u0 u1 u2 u3) nh h n js) out (js i).user 0 = v) := ⟨_, Lib.hid rfl⟩
            obtain ⟨x1, hx1⟩ : ∃ v, Hid (now (Par.mk (v4 u0 u1 u2 u3) nh h n js) out (js i).user 1 = v) := ⟨_, Lib.hid rfl⟩
            obtain ⟨x2, hx2⟩ : ∃ v, Hid (now (Par.mk (v4 u0 u1 u2 u3) nh h n js) out (js i).user 2 = v) := ⟨_, Lib.hid rfl⟩
            obtain ⟨x3, hx3⟩ : ∃ v, Hid (now (Par.mk (v4 u0 u1 u2 u3) nh h n js) out (js i).user 3 = v) := ⟨_, Lib.hid rfl⟩
            rw [hx0.out, hx1.out, hx2.out, hx3.out] at CD CH
            obtain ⟨qa, hqa⟩ : ∃ v, Hid ((Shr.dom (Shr.four x0 x1 x2 x3) (Shr.four u0 u1 u2 u3)).at_ = v) := ⟨_, Lib.hid rfl⟩
            rw [hqa.out] at CD
            clear eN eD eH hnr
            obtain ⟨bx, hbx⟩ : ∃ v, Hid ((js i).user = v) := ⟨_, Lib.hid rfl⟩
            rw [hbx.out] at CH cu
            have A0 : ∀ o, (wr.alloc o).cell? ⟨bl, off + i * 7 + 1, none⟩ = some (encStr bx) := fun o => keep_alloc cu
            have kc0 : wr.cell? ⟨w.heap.size, 0, none⟩ = some (.int .i64 u0) := HK.out.cell rfl
            have kc1 : wr.cell? ⟨w.heap.size, 1, none⟩ = some (.int .i64 u1) := HK.out.cell rfl
            have kc2 : wr.cell? ⟨w.heap.size, 2, none⟩ = some (.int .i64 u2) := HK.out.cell rfl
            have kc3 : wr.cell? ⟨w.heap.size, 3, none⟩ = some (.int .i64 u3) := HK.out.cell rfl
            have ka0 := fun o => keep_alloc (o := o) kc0
            have ka1 := fun o => keep_alloc (o := o) kc1
            have ka2 := fun o => keep_alloc (o := o) kc2
            have ka3 := fun o => keep_alloc (o := o) kc3
            go_upto_region 9 with fail
            go_cut [11] (fun s11 wx => ∃ gx, s11 = .pointer (some ⟨gx, 0, none⟩) ∧ Hid (Bk wx gx 23 #[.int .i64 xn, .int .i64 xd] ∧ wr.heap.size ≤ gx ∧ Below wr.heap.size wr wx))
            case first =>
              obtain ⟨B, hBB⟩ : ∃ B, Hid (wr.heap.size = B) := ⟨_, Lib.hid rfl⟩
              have lw : w.heap.size < B := by rw [← hBB.out]; exact HK.out.lt
              have lb : bl < B := by rw [← hBB.out]; exact World.block_lt_of_cell? wr _ cu
              have hst : Below wr.heap.size wr wr.drew ∧ B ≤ wr.drew.heap.size ∧ ∀ b o, b < B → wr.drew.cell? ⟨b, o, none⟩ = wr.cell? ⟨b, o, none⟩ := ⟨(Below.refl _ _).drew, by rw [← hBB.out]; exact Nat.le_refl _, fun _ _ _ => rfl⟩
              have hsta : ∀ o, Below wr.heap.size wr (wr.alloc o).drew ∧ B ≤ (wr.alloc o).drew.heap.size ∧ ∀ b q, b < B → (wr.alloc o).drew.cell? ⟨b, q, none⟩ = wr.cell? ⟨b, q, none⟩ := fun o => ⟨((Below.refl _ _).alloc (Nat.le_refl _) _).drew, by rw [← hBB.out]; simp, fun b q hb => World.cell?_of_block (Below.heap_alloc wr o b (by rw [hBB.out]; exact hb))⟩
              go_region_held3 (fun w' => Below wr.heap.size wr w' ∧ B ≤ w'.heap.size ∧ ∀ b o, b < B → w'.cell? ⟨b, o, none⟩ = wr.cell? ⟨b, o, none⟩) (first | exact hst | exact hsta _ | assumption | exact keepW (by assumption) (by first | exact hst | exact hsta _ | assumption | exact keepW (by assumption) (by first | exact hst | exact hsta _ | assumption | exact keepWa (by first | exact hst | exact hsta _ | assumption))) | exact keepWa (by first | exact hst | exact hsta _ | assumption | exact keepW (by assumption) (by first | exact hst | exact hsta _ | assumption | exact keepW (by assumption) (by first | exact hst | exact hsta _ | assumption | exact keepWa (by first | exact hst | exact hsta _ | assumption)))) | (refine keepWs (keepWs (by first | exact hst | exact hsta _ | assumption | exact keepW (by assumption) (by first | exact hst | exact hsta _ | assumption | exact keepW (by assumption) (by first | exact hst | exact hsta _ | assumption | exact keepWa (by first | exact hst | exact hsta _ | assumption)))) ?_ ?_) ?_ ?_ <;> (have hBo := hBB.out; dsimp only; omega))) (first | (go_at_call 32; refine (CH.out _ (And.left (by assumption))).mono ?_; rintro e w3 ⟨rfl, hb⟩; have hsz3 : B ≤ w3.heap.size := (by first | exact Nat.le_trans (Nat.le_of_eq hBB.out.symm) hb.size | exact Nat.le_trans (by rw [← hBB.out]; simp) hb.size); first | (have q := (Bk.new wr 23 #[.int .i64 0, .int .i64 0]).drew.pass hb) | skip) | (go_at_call 20; refine (CD.out _).mono ?_; rintro e w4 ⟨rfl, hb4⟩; first | (have q4 := q.pass hb4; have q0 := q4.cell (i := 0) rfl; have q1 := q4.cell (i := 1) rfl; have f0 := q4.free 0; have f1 := q4.free 1) | (have q4 := (Bk.new w3 23 #[.int .i64 0, .int .i64 0]).pass hb4; have q0 := q4.cell (i := 0) rfl; have q1 := q4.cell (i := 1) rfl; have f0 := q4.free 0; have f1 := q4.free 1) | skip))
              all_goals
                go_wp2_with fail
                go_meet
                have hBo := hBB.out
                first
                | exact ⟨wr.heap.size, rfl, Lib.hid ⟨(q4.set 0 _).set 1 _, Nat.le_refl _, And.left (by assumption)⟩⟩
                | exact ⟨w3.heap.size, rfl, Lib.hid ⟨(q4.set 0 _).set 1 _, by omega, And.left (by assumption)⟩⟩
                | exact ⟨w4.heap.size, rfl, Lib.hid ⟨Bk.new w4 _ _, by have := hb4.size; omega, And.left (by assumption)⟩⟩
                | exact ⟨w4.heap.size, rfl, Lib.hid ⟨Bk.new w4 _ _, by have := hb4.size; omega, And.left (keepWa (keepW hb4 (by assumption)))⟩⟩
            case rest =>
              obtain ⟨gx, rfl, HX⟩ := hcut
              have hgx : lb < gx := by have := H3.out.2.1.lt; have := HX.out.2.1; omega
              clear cu kc0 kc1 kc2 kc3 ka0 ka1 ka2 ka3 A0 CD CH
              have HS : Hid (Bk wc gx 23 #[.int .i64 xn, .int .i64 xd] ∧ Bk wc lb 23 #[.int .i64 x, .int .i64 y] ∧ FR wc (w.heap.size + 1) (.slice A7 k c7) out ∧ Bk wc w.heap.size 28 #[.int .i64 u0, .int .i64 u1, .int .i64 u2, .int .i64 u3] ∧ Below w.heap.size w wc) := Lib.hid ⟨HX.out.1, H3.out.2.1.pass HX.out.2.2, HF.out.pass HX.out.2.2, HK.out.pass HX.out.2.2, below_pass HB.out HB.out.size HX.out.2.2⟩
              have x0 : wc.cell? ⟨gx, 0, none⟩ = some (.int .i64 xn) := HS.out.1.cell rfl
              have x1 : wc.cell? ⟨gx, 1, none⟩ = some (.int .i64 xd) := HS.out.1.cell rfl
              have l0 : wc.cell? ⟨lb, 0, none⟩ = some (.int .i64 x) := HS.out.2.1.cell rfl
              have l1 : wc.cell? ⟨lb, 1, none⟩ = some (.int .i64 y) := HS.out.2.1.cell rfl
              have f0 := HS.out.2.1.free 0
              have f1 := HS.out.2.1.free 1
              by_cases hb0 : b < 0
              · have hbst := Lib.hid (H3.out.1.first hb0 hm.out)
                go_wp2_with fail
                go_roundg (n - (i + 1))
                case measure => omega
                case rel => exact ⟨i + 1, i, xn, xd, by omega, rfl, rfl, by go_num, Lib.hid ⟨by rw [← hxn.out, ← hxd.out]; exact hbst.out, rt_store HS.out.2.1 HS.out.2.2.1 hAl HS.out.2.2.2.1 hlw HS.out.2.2.2.2⟩⟩
              · obtain ⟨q, hbq, hqi, hqo, hql, hxq, hyq⟩ : ∃ q : Nat, b = q ∧ q < i ∧ q ∉ out ∧ (∀ j, j < i → j ∉ out → j ≠ q → Less (Par.mk (v4 u0 u1 u2 u3) nh h n js) out q j) ∧ x = num (Par.mk (v4 u0 u1 u2 u3) nh h n js) out (js q).user ∧ y = den (Par.mk (v4 u0 u1 u2 u3) nh h n js) out (js q).user := by
                  rcases H3.out.1 with ⟨h1, _⟩ | h1
                  · omega
                  · exact h1
                subst hbq
                have hqn : q < n := by omega
                have hqn' : (q : Int) < (n : Int) := by omega
                have hq0 : (0 : Int) ≤ (q : Int) := by omega
                have hrq := num_range (Par.mk (v4 u0 u1 u2 u3) nh h n js) hwh out (js q).user
                have HQ := Lib.hid (show _ ∧ _ from ⟨hxq, hyq⟩)
                have C3 := Lib.hid (fun W => rcompare_all xn xd x y hr1 hr2 (by rw [hxq]; exact hrq.1) (by rw [hyq]; exact hrq.2) W)
                obtain ⟨r, hr⟩ : ∃ v, Hid (Shr.cmp xn xd x y = v) := ⟨_, Lib.hid rfl⟩
                rw [hr.out] at C3
                obtain ⟨sm, hsm⟩ : ∃ v, ((js i).user == (js q).user) = v := ⟨_, rfl⟩
                obtain ⟨fi, hfi⟩ : ∃ v : Bool, Hid (v = true ↔ (js q).prio < (js i).prio ∨ ((js q).prio = (js i).prio ∧ (js i).id < (js q).id)) := by
                  by_cases c : (js q).prio < (js i).prio ∨ ((js q).prio = (js i).prio ∧ (js i).id < (js q).id)
                  · exact ⟨true, Lib.hid ⟨fun _ => c, fun _ => rfl⟩⟩
                  · exact ⟨false, Lib.hid ⟨fun h => (by cases h), fun h => absurd h c⟩⟩
                have CA := Lib.hid (fun W => rahead_any (js i) (js q) fi hfi.out W)
                unfold wantCells at CA
                have HL : Hid (Less (Par.mk (v4 u0 u1 u2 u3) nh h n js) out i q ↔ ((js i).user = (js q).user ∧ fi = true) ∨ ((js i).user ≠ (js q).user ∧ (r < 0 ∨ (r = 0 ∧ (js i).user < (js q).user)))) := Lib.hid (by
                  rw [less_iff hqi, hfi.out]
                  have e : cmpU (Par.mk (v4 u0 u1 u2 u3) nh h n js) out (js i).user (js q).user = r := by
                    unfold cmpU
                    rw [hxn.out, hxd.out, ← hxq, ← hyq]
                    exact hr.out
                  show _ ∧ _ ∨ _ ∧ (cmpU (Par.mk (v4 u0 u1 u2 u3) nh h n js) out (js i).user (js q).user < 0 ∨ (cmpU (Par.mk (v4 u0 u1 u2 u3) nh h n js) out (js i).user (js q).user = 0 ∧ _)) ↔ _
                  rw [e])
                clear hqo hql hxq hyq hrq
                go_wp2_with fail
                refine (C3.out _).mono ?_
                rintro e w5 ⟨rfl, hb5⟩
                have HS5 : Hid (Bk w5 gx 23 #[.int .i64 xn, .int .i64 xd] ∧ Bk w5 lb 23 #[.int .i64 x, .int .i64 y] ∧ FR w5 (w.heap.size + 1) (.slice A7 k c7) out ∧ Bk w5 w.heap.size 28 #[.int .i64 u0, .int .i64 u1, .int .i64 u2, .int .i64 u3] ∧ Below w.heap.size w w5) := Lib.hid ⟨HS.out.1.pass hb5, HS.out.2.1.pass hb5, HS.out.2.2.1.pass hb5, HS.out.2.2.2.1.pass hb5, below_pass HS.out.2.2.2.2 HS.out.2.2.2.2.size hb5⟩
                have ui : w5.cell? ⟨bl, off + i * 7 + 1, none⟩ = some (encStr (js i).user) := ((HC.out i hin).keep (HS5.out.2.2.2.2.block bl (HC.out i hin).lt)).c1
                have uq : w5.cell? ⟨bl, off + q * 7 + 1, none⟩ = some (encStr (js q).user) := ((HC.out q hqn).keep (HS5.out.2.2.2.2.block bl (HC.out q hqn).lt)).c1
                clear x0 x1 l0 l1 f0 f1 hb5 C3
                go_upto_region 14 with fail
                go_cut [14] (fun s14 wx => s14 = .bool sm ∧ Hid (Bk wx gx 23 #[.int .i64 xn, .int .i64 xd] ∧ Bk wx lb 23 #[.int .i64 x, .int .i64 y] ∧ FR wx (w.heap.size + 1) (.slice A7 k c7) out ∧ Bk wx w.heap.size 28 #[.int .i64 u0, .int .i64 u1, .int .i64 u2, .int .i64 u3] ∧ Below w.heap.size w wx))
                case first =>
                  go_region_held3 (fun w' => w'.cell? ⟨bl, off + i * 7 + 1, none⟩ = some (encStr (js i).user) ∧ w'.cell? ⟨bl, off + q * 7 + 1, none⟩ = some (encStr (js q).user)) (first | exact ⟨ui, uq⟩ | assumption) (fail)
                  all_goals
                    go_wp2_with fail
                    go_meet
                    exact ⟨rfl, Lib.hid ⟨HS5.out.1.drew, HS5.out.2.1.drew, HS5.out.2.2.1.heap rfl, HS5.out.2.2.2.1.drew, HS5.out.2.2.2.2.drew⟩⟩
                case rest =>
                  obtain ⟨rfl, HS6⟩ := hcut
                  clear ui uq HS5
                  have ai := (HC.out i hin).keep (HS6.out.2.2.2.2.block bl (HC.out i hin).lt)
                  have aq := (HC.out q hqn).keep (HS6.out.2.2.2.2.block bl (HC.out q hqn).lt)
                  have ai0 := ai.c0
                  have ai1 := ai.c1
                  have ai2 := ai.c2
                  have ai3 := ai.c3
                  have ai4 := ai.c4
                  have ai5 := ai.c5
                  have ai6 := ai.c6
                  have aq0 := aq.c0
                  have aq1 := aq.c1
                  have aq2 := aq.c2
                  have aq3 := aq.c3
                  have aq4 := aq.c4
                  have aq5 := aq.c5
                  have aq6 := aq.c6
                  clear ai aq
                  obtain ⟨B, hBB⟩ : ∃ B, Hid (wc.heap.size = B) := ⟨_, Lib.hid rfl⟩
                  have lbB : bl < B := by rw [← hBB.out]; exact World.block_lt_of_cell? wc _ ai0
                  have hst : Below wc.heap.size wc wc.drew ∧ B ≤ wc.drew.heap.size ∧ ∀ b o, b < B → wc.drew.cell? ⟨b, o, none⟩ = wc.cell? ⟨b, o, none⟩ := ⟨(Below.refl _ _).drew, by rw [← hBB.out]; exact Nat.le_refl _, fun _ _ _ => rfl⟩
                  go_upto_region 15 with fail
                  go_cut [15] (fun s15 wx => s15 = .bool fi ∧ Hid (Bk wx gx 23 #[.int .i64 xn, .int .i64 xd] ∧ Bk wx lb 23 #[.int .i64 x, .int .i64 y] ∧ FR wx (w.heap.size + 1) (.slice A7 k c7) out ∧ Bk wx w.heap.size 28 #[.int .i64 u0, .int .i64 u1, .int .i64 u2, .int .i64 u3] ∧ Below w.heap.size w wx))
                  case first =>
                    go_region_held3 (fun w' => Below wc.heap.size wc w' ∧ B ≤ w'.heap.size ∧ ∀ b o, b < B → w'.cell? ⟨b, o, none⟩ = wc.cell? ⟨b, o, none⟩) (first | exact hst | assumption | exact keepW (by assumption) hst) (first | (go_at_call 47; refine (CA.out _).mono ?_; rintro e w7 ⟨rfl, hb⟩))
                    all_goals
                      go_wp2_with fail
                      go_meet
                      exact ⟨rfl, Lib.hid ⟨HS6.out.1.drew.pass hb, HS6.out.2.1.drew.pass hb, (HS6.out.2.2.1.heap (w' := wc.drew) rfl).pass hb, HS6.out.2.2.2.1.drew.pass hb, below_pass HS6.out.2.2.2.2.drew HS6.out.2.2.2.2.size hb⟩⟩
                  case rest =>
                    obtain ⟨rfl, HS7⟩ := hcut
                    clear ai0 ai1 ai2 ai3 ai4 ai5 ai6 aq0 aq1 aq2 aq3 aq4 aq5 aq6 hst lbB
                    obtain ⟨cv, hcv⟩ : ∃ v : Bool, Hid (v = true ↔ Less (Par.mk (v4 u0 u1 u2 u3) nh h n js) out i q) := by
                      by_cases c : Less (Par.mk (v4 u0 u1 u2 u3) nh h n js) out i q
                      · exact ⟨true, Lib.hid ⟨fun _ => c, fun _ => rfl⟩⟩
                      · exact ⟨false, Lib.hid ⟨fun h => (by cases h), fun h => absurd h c⟩⟩
                    have ui : wc.cell? ⟨bl, off + i * 7 + 1, none⟩ = some (encStr (js i).user) := ((HC.out i hin).keep (HS7.out.2.2.2.2.block bl (HC.out i hin).lt)).c1
                    have uq : wc.cell? ⟨bl, off + q * 7 + 1, none⟩ = some (encStr (js q).user) := ((HC.out q hqn).keep (HS7.out.2.2.2.2.block bl (HC.out q hqn).lt)).c1
                    go_upto_region 16 with fail
                    go_cut [99] (fun s99 wx => s99 = .bool cv ∧ Hid (Bk wx gx 23 #[.int .i64 xn, .int .i64 xd] ∧ Bk wx lb 23 #[.int .i64 x, .int .i64 y] ∧ FR wx (w.heap.size + 1) (.slice A7 k c7) out ∧ Bk wx w.heap.size 28 #[.int .i64 u0, .int .i64 u1, .int .i64 u2, .int .i64 u3] ∧ Below w.heap.size w wx))
                    case first =>
                      cases sm with
                      | true =>
                        have hue : (js i).user = (js q).user := by simpa using hsm
                        have HUE := Lib.hid hue
                        clear hue
                        cases fi with
                        | true =>
                          obtain rfl : cv = true := by
                            exact hcv.out.2 (HL.out.2 (Or.inl ⟨HUE.out, rfl⟩))
                          go_quiet (fail)
                          all_goals
                            go_wp2_with fail
                            go_meet
                            exact ⟨rfl, Lib.hid ⟨HS7.out.1.drewN _, HS7.out.2.1.drewN _, HS7.out.2.2.1.heap rfl, HS7.out.2.2.2.1.drewN _, below_drewN HS7.out.2.2.2.2 _⟩⟩
                        | false =>
                          obtain rfl : cv = false := by
                            cases cv with
                            | false => rfl
                            | true =>
                              exfalso
                              have hL := HL.out.1 (hcv.out.1 rfl)
                              rcases hL with ⟨_, hL⟩ | ⟨hL, _⟩
                              · cases hL
                              · exact hL HUE.out
                          go_quiet (fail)
                          all_goals
                            go_wp2_with fail
                            go_meet
                            exact ⟨rfl, Lib.hid ⟨HS7.out.1.drewN _, HS7.out.2.1.drewN _, HS7.out.2.2.1.heap rfl, HS7.out.2.2.2.1.drewN _, below_drewN HS7.out.2.2.2.2 _⟩⟩
                      | false =>
                        have hue : (js i).user ≠ (js q).user := fun c => by rw [c] at hsm; simp at hsm
                        have HUE := Lib.hid hue
                        clear hue
                        by_cases h1 : r < 0
                        · have hd1 : decide (r < 0) = true := by simpa using h1
                          have H1 := Lib.hid h1
                          clear h1
                          obtain rfl : cv = true := by
                            exact hcv.out.2 (HL.out.2 (Or.inr ⟨HUE.out, Or.inl H1.out⟩))
                          go_quiet (fail)
                          all_goals
                            go_wp2_with fail
                            go_meet
                            exact ⟨rfl, Lib.hid ⟨HS7.out.1.drewN _, HS7.out.2.1.drewN _, HS7.out.2.2.1.heap rfl, HS7.out.2.2.2.1.drewN _, below_drewN HS7.out.2.2.2.2 _⟩⟩
                        · have hd1 : decide (r < 0) = false := by simpa using h1
                          by_cases h2 : r = 0
                          · have hd2 : (r == 0) = true := by simpa using h2
                            by_cases h3 : (js i).user < (js q).user
                            · have hd3 : Op.bytesLess (js i).user (js q).user = true := by rw [bytesLess_eq]; exact decide_eq_true h3
                              have H2 := Lib.hid (show _ ∧ _ from ⟨h2, h3⟩)
                              clear h1 h2 h3
                              obtain rfl : cv = true := by
                                exact hcv.out.2 (HL.out.2 (Or.inr ⟨HUE.out, Or.inr H2.out⟩))
                              go_quiet (fail)
                              all_goals
                                go_wp2_with fail
                                go_meet
                                exact ⟨rfl, Lib.hid ⟨HS7.out.1.drewN _, HS7.out.2.1.drewN _, HS7.out.2.2.1.heap rfl, HS7.out.2.2.2.1.drewN _, below_drewN HS7.out.2.2.2.2 _⟩⟩
                            · have hd3 : Op.bytesLess (js i).user (js q).user = false := by rw [bytesLess_eq]; exact decide_eq_false h3
                              have H2 := Lib.hid (show _ ∧ _ ∧ _ from ⟨h1, h2, h3⟩)
                              clear h1 h2 h3
                              obtain rfl : cv = false := by
                                cases cv with
                                | false => rfl
                                | true =>
                                  exfalso
                                  have hL := HL.out.1 (hcv.out.1 rfl)
                                  rcases hL with ⟨hL, _⟩ | ⟨_, hL | ⟨_, hL⟩⟩
                                  · exact HUE.out hL
                                  · exact H2.out.1 hL
                                  · exact H2.out.2.2 hL
                              go_quiet (fail)
                              all_goals
                                go_wp2_with fail
                                go_meet
                                exact ⟨rfl, Lib.hid ⟨HS7.out.1.drewN _, HS7.out.2.1.drewN _, HS7.out.2.2.1.heap rfl, HS7.out.2.2.2.1.drewN _, below_drewN HS7.out.2.2.2.2 _⟩⟩
                          · have hd2 : (r == 0) = false := by simpa using h2
                            have H2 := Lib.hid (show _ ∧ _ from ⟨h1, h2⟩)
                            clear h1 h2
                            obtain rfl : cv = false := by
                              cases cv with
                              | false => rfl
                              | true =>
                                exfalso
                                have hL := HL.out.1 (hcv.out.1 rfl)
                                rcases hL with ⟨hL, _⟩ | ⟨_, hL | ⟨hL, _⟩⟩
                                · exact HUE.out hL
                                · exact H2.out.1 hL
                                · exact H2.out.2 hL
                            go_quiet (fail)
                            all_goals
                              go_wp2_with fail
                              go_meet
                              exact ⟨rfl, Lib.hid ⟨HS7.out.1.drewN _, HS7.out.2.1.drewN _, HS7.out.2.2.1.heap rfl, HS7.out.2.2.2.1.drewN _, below_drewN HS7.out.2.2.2.2 _⟩⟩
                    case rest =>
                      obtain ⟨rfl, HS8⟩ := hcut
                      clear ui uq HS7 HS6
                      have x0 : wc.cell? ⟨gx, 0, none⟩ = some (.int .i64 xn) := HS8.out.1.cell rfl
                      have x1 : wc.cell? ⟨gx, 1, none⟩ = some (.int .i64 xd) := HS8.out.1.cell rfl
                      have l0 : wc.cell? ⟨lb, 0, none⟩ = some (.int .i64 x) := HS8.out.2.1.cell rfl
                      have l1 : wc.cell? ⟨lb, 1, none⟩ = some (.int .i64 y) := HS8.out.2.1.cell rfl
                      have f0 := HS8.out.2.1.free 0
                      have f1 := HS8.out.2.1.free 1
                      cases cv with
                      | true =>
                        have hbst := Lib.hid (H3.out.1.turn hm.out (hcv.out.1 rfl))
                        go_wp2_with fail
                        go_roundg (n - (i + 1))
                        case measure => omega
                        case rel => exact ⟨i + 1, i, xn, xd, by omega, rfl, rfl, by go_num, Lib.hid ⟨by rw [← hxn.out, ← hxd.out]; exact hbst.out, rt_store HS8.out.2.1 HS8.out.2.2.1 hAl HS8.out.2.2.2.1 hlw HS8.out.2.2.2.2⟩⟩
                      | false =>
                        have hbst := Lib.hid (H3.out.1.stay fun c => by have := hcv.out.2 c; cases this)
                        go_wp2_with fail
                        go_roundg (n - (i + 1))
                        case measure => omega
                        case rel => exact ⟨i + 1, q, x, y, by omega, rfl, rfl, by go_num, Lib.hid ⟨hbst.out, HS8.out.2⟩⟩
        · obtain rfl : n = i := by omega
          have hex : ∃ j, j < n ∧ j ∉ out := Classical.byContradiction fun hno => by
            have := nodup_sub_len (l2 := out) (List.nodup_range (n := n)) fun z hz => Classical.byContradiction fun c => hno ⟨z, List.mem_range.1 hz, c⟩
            rw [List.length_range, ← hlen.out] at this
            omega
          obtain ⟨q, hbq, hnx⟩ := Bst.next (P := (Par.mk (v4 u0 u1 u2 u3) nh h n js)) H3.out.1 hex
          subst hbq
          have HN := Lib.hid hnx
          have hkm : k ≤ 1000000 := by omega
          have hbs : w.heap.size + 1 ≤ wr.heap.size := by have := H3.out.2.2.2.1.lt; omega
          clear hnx hex
          go_upto_region 19 with fail
          go_upto_region 20 with (at_builtin; refine wpList_frpush H3.out.2.2.1 (k := q) hkm hbs rfl _ _ rfl rfl rfl rfl ?_)
          intro A6 c6 W' hg6 hF6 hr6
          have hown : ∀ g, (Value.slice A7 k c7).ownBlock = some g → w.heap.size + 1 ≤ g := fun g hg => (H3.out.2.2.1.lt g hg).1
          have HR := Lib.hid (show _ ∧ _ ∧ _ from ⟨hF6, (hg6.block _ H3.out.2.2.2.1.lt (fun c => by have := hown _ c.symm; omega)).trans H3.out.2.2.2.1, H3.out.2.2.2.2.grown hg6 H3.out.2.2.2.2.size (fun g hg => by have := hown g hg; omega)⟩)
          clear hg6 hF6 hr6 hown
          go_wp2_with fail
          go_roundg (n - (k + 1))
          case measure => omega
          case rel => exact ⟨k + 1, A6, c6, out ++ [q], by omega, rfl, rfl, Lib.hid ⟨HR.out.1, HT.out.snoc HN.out, HR.out.2.1, HR.out.2.2⟩⟩
    · obtain rfl : n = k := by omega
      have HR := Lib.hid (show _ ∧ _ from ⟨H.out.1.mono (by omega : w.heap.size ≤ w.heap.size + 1), hlen.out⟩)
      go_wp2_with fail
      go_ret
      exact ⟨A7, c7, out, rfl, HR.out.1, ⟨HR.out.2.symm, H.out.2.1⟩, H.out.2.2.2⟩
end Go.Proofs.Ytnjgkgnjbmfpfaa
