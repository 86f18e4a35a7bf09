/- Walk of the document's Ladder. -/
import Derived.Test.YtnjgkgnjbmfpfaaWi
import Derived.Test.YtnjgkgnjbmfpfaaWe
import Derived.Test.YtnjgkgnjbmfpfaaOut
namespace Go.Proofs.Ytnjgkgnjbmfpfaa
open Go.RowKit Go.Shelf

/-- is i among the first k of d -/
def thereN (d : Nat → Int) (i : Nat) : Nat → Bool
  | 0 => false
  | k + 1 => thereN d i k || (d k == (i : Int))
theorem thereN_iff (d : Nat → Int) (i k : Nat) : thereN d i k = true ↔ ∃ j, j < k ∧ d j = i := by
  induction k with
  | zero => simp [thereN]
  | succ k ih =>
    unfold thereN
    rw [Bool.or_eq_true, ih, beq_iff_eq]
    constructor
    · rintro (⟨j, h1, h2⟩ | h)
      · exact ⟨j, by omega, h2⟩
      · exact ⟨k, by omega, h⟩
    · rintro ⟨j, h1, h2⟩
      by_cases e : j = k
      · right; rw [← e]; exact h2
      · left; exact ⟨j, by omega, h2⟩

set_option maxRecDepth 100000 in
set_option maxHeartbeats 8000000 in
theorem rladder_any (A0 : Option Addr) (bl off n c : Nat) (hA0 : 0 < n → A0 = some ⟨bl, off, none⟩) (v : Nat → Nat → Int) (u0 u1 u2 u3 : Int) (hn : n ≤ 1000000) (hv : ∀ i j, v i j ≤ 9223372036854775807) (hu : u0 ≤ 9223372036854775807 ∧ u1 ≤ 9223372036854775807 ∧ u2 ≤ 9223372036854775807 ∧ u3 ≤ 9223372036854775807) (d : Nat → Int) (hsd : Srt.Sd (Shr.prI (domP v u0 u1 u2 u3) (domQ v u0 u1 u2 u3)) 0 n d) (hval : Srt.Val 0 n (fun i => (i : Int)) d) (w : World) (hrow : VecRow w bl off n v) :
    Calls Try.prog 26 #[.slice A0 n c, .agg #[.int .i64 u0, .int .i64 u1, .int .i64 u2, .int .i64 u3]] w fun e w' => ∃ A cap, e = .returned (.slice A n cap) ∧ OutRow w' (w.heap.size + 1) n d A cap ∧ Below w.heap.size w w' := by
  have HROW := Lib.hid hrow
  have HA0 := Lib.hid hA0
  clear hA0
  have HV := Lib.hid hv
  have HU := Lib.hid hu
  have HD := Lib.hid (show _ ∧ _ from ⟨hsd, hval⟩)
  have hP : Hid (∀ k, domP v u0 u1 u2 u3 k ≤ 9223372036854775807 ∧ domQ v u0 u1 u2 u3 k ≤ 9223372036854775807) := Lib.hid (fun k => by
    have h := Shr.domN_range (Shr.four (v k 0) (v k 1) (v k 2) (v k 3)) (Shr.four u0 u1 u2 u3) (by intro j; unfold Shr.four; split <;> exact hv _ _) (by intro j; unfold Shr.four; split <;> first | exact hu.1 | exact hu.2.1 | exact hu.2.2.1 | exact hu.2.2.2) 4
    unfold domP domQ Shr.dom
    omega)
  have hnn : (n : Int) ≤ 1000000 := by omega
  clear hrow hv hu hsd hval
  go_enter Try.func26, Try.ntmps26
  go_wp2_with fail
  go_loopg [5] n (fun g s5 wr => ∃ k : Nat, k ≤ n ∧ g = n - k ∧ ∃ A cap, s5 = .slice A k cap ∧ OutRow wr (w.heap.size + 1) k d A cap ∧ Bk wr w.heap.size 28 #[.int .i64 u0, .int .i64 u1, .int .i64 u2, .int .i64 u3] ∧ Below w.heap.size w wr)
  case atStart => exact ⟨0, by omega, by omega, none, 0, rfl, OutRow.nil _ _ _, Bk.newAt rfl, (Below.refl _ _).alloc (Nat.le_refl _) _⟩
  case round =>
    obtain ⟨k, hk, hg, A, cap, rfl, hO, K0, hB⟩ := hrel
    rename World => wo
    by_cases hkn : k < n
    · have hA : ∀ g, A = some ⟨g, 0, none⟩ → g < wo.heap.size := fun g h => (hO.lt g h).2
      have hsz : w.heap.size < wo.heap.size := K0.lt
      have hPN : Hid (Shr.pickN (domP v u0 u1 u2 u3) (domQ v u0 u1 u2 u3) (fun j => thereN d j k) n = d k) := Lib.hid (Shr.pick_next HD.out.1 HD.out.2 hkn (fun j _ => thereN_iff d j k))
      go_wp2_with fail
      go_loopg [6, 8] n (fun g s6 s8 wi => ∃ i : Nat, i ≤ n ∧ g = n - i ∧ s8 = .int .i64 i ∧ (∃ pk a b, s6 = .int .i64 pk ∧ Hid (Shr.pickN (domP v u0 u1 u2 u3) (domQ v u0 u1 u2 u3) (fun j => thereN d j k) i = pk ∧ (0 ≤ pk → a = domP v u0 u1 u2 u3 pk.toNat ∧ b = domQ v u0 u1 u2 u3 pk.toNat)) ∧ Bk wi wo.heap.size 23 #[.int .i64 a, .int .i64 b]) ∧
        OutRow wi (w.heap.size + 1) k d A cap ∧ Bk wi w.heap.size 28 #[.int .i64 u0, .int .i64 u1, .int .i64 u2, .int .i64 u3] ∧ Below w.heap.size w wi)
      case atStart => exact ⟨0, by omega, by omega, rfl, ⟨-1, 0, 0, rfl, Lib.hid ⟨rfl, fun h => by omega⟩, Bk.new wo _ _⟩, hO.alloc _, K0.alloc _, hB.alloc hB.size _⟩
      case round =>
        obtain ⟨i, hi, hg2, rfl, ⟨pk, a, b, rfl, HPK, K7⟩, hO2, K02, hB2⟩ := hrel
        clear hO K0 hB
        by_cases hin : i < n
        · go_wp2_with fail
          go_loopg [9, 10] k (fun g s9 s10 w3 => ∃ kk : Nat, kk ≤ k ∧ g = k - kk ∧ s10 = .int .i64 kk ∧ s9 = .bool (thereN d i kk) ∧ w3 = wr)
          case atStart => exact ⟨0, by omega, by omega, rfl, rfl, rfl⟩
          case round =>
            obtain ⟨kk, hkk, hg3, rfl, rfl, rfl⟩ := hrel
            by_cases hlt : kk < k
            · obtain ⟨g, rfl, hc⟩ := hO2.cell (by omega)
              have c0 := hc kk hlt
              clear hc
              have hN : Hid (thereN d i (kk + 1) = (thereN d i kk || (d kk == (i : Int)))) := Lib.hid rfl
              generalize thereN d i kk = tb at *
              generalize d kk = x at *
              have i0 : (0 : Int) ≤ (kk : Int) := by omega
              have i1 : (kk : Int) < (k : Int) := by omega
              cases tb
              · go_wp2_with fail
                go_roundg (k - (kk + 1))
                case measure => omega
                case rel => exact ⟨kk + 1, by omega, rfl, by go_num, by rw [hN.out]; simp, rfl⟩
              · go_wp2_with fail
                go_roundg (k - (kk + 1))
                case measure => omega
                case rel => exact ⟨kk + 1, by omega, rfl, by go_num, by rw [hN.out]; simp, rfl⟩
            · obtain rfl : kk = k := by omega
              cases hth : thereN d i kk
              · have HTH := Lib.hid hth
                clear hth
                have hAe := HA0.out (by omega)
                subst hAe
                have r0 : wr.cell? ⟨bl, off + i * 4, none⟩ = some (.int .i64 (v i 0)) := keep_below (HROW.out i hin 0 (by omega)) hB2
                have r1 : wr.cell? ⟨bl, off + i * 4 + 1, none⟩ = some (.int .i64 (v i 1)) := keep_below (HROW.out i hin 1 (by omega)) hB2
                have r2 : wr.cell? ⟨bl, off + i * 4 + 2, none⟩ = some (.int .i64 (v i 2)) := keep_below (HROW.out i hin 2 (by omega)) hB2
                have r3 : wr.cell? ⟨bl, off + i * 4 + 3, none⟩ = some (.int .i64 (v i 3)) := keep_below (HROW.out i hin 3 (by omega)) hB2
                have C := Lib.hid (fun W => rdominant_any (v i 0) (v i 1) (v i 2) (v i 3) u0 u1 u2 u3 (HV.out i 0) (HV.out i 1) (HV.out i 2) (HV.out i 3) HU.out.1 HU.out.2.1 HU.out.2.2.1 HU.out.2.2.2 W)
                have eP : Hid ((Shr.dom (Shr.four (v i 0) (v i 1) (v i 2) (v i 3)) (Shr.four u0 u1 u2 u3)).n = domP v u0 u1 u2 u3 i) := Lib.hid rfl
                have eQ : Hid ((Shr.dom (Shr.four (v i 0) (v i 1) (v i 2) (v i 3)) (Shr.four u0 u1 u2 u3)).d = domQ v u0 u1 u2 u3 i) := Lib.hid rfl
                rw [eP.out, eQ.out] at C
                clear eP eQ
                generalize (Shr.dom (Shr.four (v i 0) (v i 1) (v i 2) (v i 3)) (Shr.four u0 u1 u2 u3)).at_ = qa at *
                obtain ⟨qn, hqn⟩ : ∃ qn, Hid (domP v u0 u1 u2 u3 i = qn) := ⟨_, Lib.hid rfl⟩
                obtain ⟨qd, hqd⟩ : ∃ qd, Hid (domQ v u0 u1 u2 u3 i = qd) := ⟨_, Lib.hid rfl⟩
                have hqb := hP.out i
                rw [hqn.out, hqd.out] at C hqb
                generalize v i 0 = x0 at *
                generalize v i 1 = x1 at *
                generalize v i 2 = x2 at *
                generalize v i 3 = x3 at *
                have i0 : (0 : Int) ≤ (i : Int) := by omega
                have i1 : (i : Int) < (n : Int) := by omega
                have k0 := K02.cell (i := 0) rfl
                have k1 := K02.cell (i := 1) rfl
                have k2 := K02.cell (i := 2) rfl
                have k3 := K02.cell (i := 3) rfl
                have k00 : ∀ o, (wr.alloc o).cell? ⟨w.heap.size, 0, none⟩ = some (.int .i64 u0) := fun o => keep_alloc k0
                have k01 : ∀ o, (wr.alloc o).cell? ⟨w.heap.size, 1, none⟩ = some (.int .i64 u1) := fun o => keep_alloc k1
                have k02 : ∀ o, (wr.alloc o).cell? ⟨w.heap.size, 2, none⟩ = some (.int .i64 u2) := fun o => keep_alloc k2
                have k03 : ∀ o, (wr.alloc o).cell? ⟨w.heap.size, 3, none⟩ = some (.int .i64 u3) := fun o => keep_alloc k3
                have r00 : ∀ o, (wr.alloc o).cell? ⟨bl, off + i * 4, none⟩ = some (.int .i64 x0) := fun o => keep_alloc r0
                have r01 : ∀ o, (wr.alloc o).cell? ⟨bl, off + i * 4 + 1, none⟩ = some (.int .i64 x1) := fun o => keep_alloc r1
                have r02 : ∀ o, (wr.alloc o).cell? ⟨bl, off + i * 4 + 2, none⟩ = some (.int .i64 x2) := fun o => keep_alloc r2
                have r03 : ∀ o, (wr.alloc o).cell? ⟨bl, off + i * 4 + 3, none⟩ = some (.int .i64 x3) := fun o => keep_alloc r3
                go_upto_region 14 with fail
                go_cut [11] (fun s11 wx => ∃ gx, s11 = .pointer (some ⟨gx, 0, none⟩) ∧ wo.heap.size < gx ∧ Bk wx gx 23 #[.int .i64 qn, .int .i64 qd] ∧ Bk wx wo.heap.size 23 #[.int .i64 a, .int .i64 b] ∧ OutRow wx (w.heap.size + 1) kk d A cap ∧ Bk wx w.heap.size 28 #[.int .i64 u0, .int .i64 u1, .int .i64 u2, .int .i64 u3] ∧ Below w.heap.size w wx)
                case first =>
                  go_region_with (go_at_call 20; refine (C.out _).mono ?_; rintro e w3 ⟨rfl, hb⟩; first | (have q := (Bk.new wr 23 #[.int .i64 0, .int .i64 0]).drew.pass hb; have e0 := q.cell (i := 0) rfl; have e1 := q.cell (i := 1) rfl; have f0 := q.free 0; have f1 := q.free 1) | skip)
                  all_goals
                    go_wp2_with fail
                    go_meet
                    have h7 := K7.lt
                    have hsz3 := hb.size
                    first
                    | exact ⟨wr.heap.size, rfl, h7, (q.set 0 _).set 1 _, (((K7.alloc _).drew.pass hb).far (by simp; omega) _).far (by simp; omega) _, (OutRow.far (OutRow.far (OutRow.pass (w := (wr.alloc _).drew) (hO2.alloc _) hb) _ (fun g hg => by have := (hO2.lt g hg).2; simp; omega) _) _ (fun g hg => by have := (hO2.lt g hg).2; simp; omega) _), (((K02.alloc _).drew.pass hb).far (by simp; omega) _).far (by simp; omega) _, ((below_pass (hB2.alloc hB2.size _).drew (Nat.le_trans hB2.size (by simp)) hb).setCell hB2.size _).setCell hB2.size _⟩
                    | exact ⟨w3.heap.size, rfl, Nat.lt_of_lt_of_le h7 hsz3, Bk.new w3 _ _, (K7.drew.pass hb).alloc _, (OutRow.pass (w := wr.drew) hO2 hb).alloc _, (K02.drew.pass hb).alloc _, (below_pass hB2.drew hB2.size hb).alloc (Nat.le_trans hB2.size hsz3) _⟩
                case rest =>
                  obtain ⟨gx, rfl, hgx, KX, K7', hO3, K03, hB3⟩ := hcut
                  clear r0 r1 r2 r3 k0 k1 k2 k3 k00 k01 k02 k03 r00 r01 r02 r03
                  have x0' : wc.cell? ⟨gx, 0, none⟩ = some (.int .i64 qn) := KX.cell rfl
                  have x1' : wc.cell? ⟨gx, 1, none⟩ = some (.int .i64 qd) := KX.cell rfl
                  have y0' : wc.cell? ⟨wo.heap.size, 0, none⟩ = some (.int .i64 a) := K7'.cell rfl
                  have y1' : wc.cell? ⟨wo.heap.size, 1, none⟩ = some (.int .i64 b) := K7'.cell rfl
                  have z0' := K7'.free 0
                  have z1' := K7'.free 1
                  by_cases hpk : pk < 0
                  · have hnew : Hid (Shr.pickN (domP v u0 u1 u2 u3) (domQ v u0 u1 u2 u3) (fun j => thereN d j kk) (i + 1) = i) := Lib.hid (Shr.pickN_yes HTH.out (Or.inl (by rw [HPK.out.1]; exact hpk)))
                    go_wp2_with fail
                    go_roundg (n - (i + 1))
                    case measure => omega
                    case rel => exact ⟨i + 1, by omega, rfl, by go_num, ⟨i, qn, qd, rfl, Lib.hid ⟨hnew.out, fun _ => by rw [Int.toNat_natCast]; exact ⟨hqn.out.symm, hqd.out.symm⟩⟩, (K7'.set 0 _).set 1 _⟩, (hO3.far _ (fun g hg => by have := hA g hg; dsimp only; omega) _).far _ (fun g hg => by have := hA g hg; dsimp only; omega) _, (K03.far (by dsimp only; omega) _).far (by dsimp only; omega) _, (hB3.setCell (by dsimp only; omega) _).setCell (by dsimp only; omega) _⟩
                  · have hab := HPK.out.2 (by omega)
                    have hbb := hP.out pk.toNat
                    rw [← hab.1, ← hab.2] at hbb
                    have C2 := Lib.hid (fun W => rcompare_all qn qd a b hqb.1 hqb.2 hbb.1 hbb.2 W)
                    obtain ⟨cv, hcv⟩ : ∃ cv, Hid (Shr.cmp qn qd a b = cv) := ⟨_, Lib.hid rfl⟩
                    rw [hcv.out] at C2
                    have hcv2 : Hid (Shr.cmp (domP v u0 u1 u2 u3 i) (domQ v u0 u1 u2 u3 i) (domP v u0 u1 u2 u3 (Shr.pickN (domP v u0 u1 u2 u3) (domQ v u0 u1 u2 u3) (fun j => thereN d j kk) i).toNat) (domQ v u0 u1 u2 u3 (Shr.pickN (domP v u0 u1 u2 u3) (domQ v u0 u1 u2 u3) (fun j => thereN d j kk) i).toNat) = cv) := Lib.hid (by rw [HPK.out.1, hqn.out, hqd.out, ← hab.1, ← hab.2]; exact hcv.out)
                    clear hab hbb
                    go_wp2_with fail
                    refine (C2.out _).mono ?_
                    rintro e w4 ⟨rfl, hb4⟩
                    have KX4 := KX.pass hb4
                    have K74 := K7'.pass hb4
                    have hO4 := hO3.pass hb4
                    have K04 := K03.pass hb4
                    have hB4 := below_pass hB3 hB3.size hb4
                    clear x0' x1' y0' y1' z0' z1'
                    have x0' : w4.cell? ⟨gx, 0, none⟩ = some (.int .i64 qn) := KX4.cell rfl
                    have x1' : w4.cell? ⟨gx, 1, none⟩ = some (.int .i64 qd) := KX4.cell rfl
                    have y0' : w4.cell? ⟨wo.heap.size, 0, none⟩ = some (.int .i64 a) := K74.cell rfl
                    have y1' : w4.cell? ⟨wo.heap.size, 1, none⟩ = some (.int .i64 b) := K74.cell rfl
                    have z0' := K74.free 0
                    have z1' := K74.free 1
                    by_cases hc0 : cv < 0
                    · have hc1 : decide (cv < 0) = true := decide_eq_true hc0
                      have hnew : Hid (Shr.pickN (domP v u0 u1 u2 u3) (domQ v u0 u1 u2 u3) (fun j => thereN d j kk) (i + 1) = i) := Lib.hid (Shr.pickN_yes HTH.out (Or.inr (by rw [hcv2.out]; exact hc0)))
                      go_wp2_with fail
                      go_roundg (n - (i + 1))
                      case measure => omega
                      case rel => exact ⟨i + 1, by omega, rfl, by go_num, ⟨i, qn, qd, rfl, Lib.hid ⟨hnew.out, fun _ => by rw [Int.toNat_natCast]; exact ⟨hqn.out.symm, hqd.out.symm⟩⟩, (K74.set 0 _).set 1 _⟩, (hO4.far _ (fun g hg => by have := hA g hg; dsimp only; omega) _).far _ (fun g hg => by have := hA g hg; dsimp only; omega) _, (K04.far (by dsimp only; omega) _).far (by dsimp only; omega) _, (hB4.setCell (by dsimp only; omega) _).setCell (by dsimp only; omega) _⟩
                    · have hc1 : decide (cv < 0) = false := decide_eq_false hc0
                      have hnew : Hid (Shr.pickN (domP v u0 u1 u2 u3) (domQ v u0 u1 u2 u3) (fun j => thereN d j kk) (i + 1) = pk) := Lib.hid (by rw [← HPK.out.1]; exact Shr.pickN_no HTH.out (by rw [HPK.out.1]; omega) (by rw [hcv2.out]; omega))
                      go_wp2_with fail
                      go_roundg (n - (i + 1))
                      case measure => omega
                      case rel => exact ⟨i + 1, by omega, rfl, by go_num, ⟨pk, a, b, rfl, Lib.hid ⟨hnew.out, HPK.out.2⟩, K74⟩, hO4, K04, hB4⟩
              · have HTH := Lib.hid hth
                clear hth
                go_wp2_with fail
                go_roundg (n - (i + 1))
                case measure => omega
                case rel => exact ⟨i + 1, by omega, rfl, by go_num, ⟨pk, a, b, rfl, Lib.hid ⟨by rw [← HPK.out.1]; exact Shr.pickN_out HTH.out, HPK.out.2⟩, K7⟩, hO2, K02, hB2⟩
        · obtain rfl : i = n := by omega
          have hpk : pk = d k := by rw [← HPK.out.1, hPN.out]
          subst hpk
          have hdk : Hid (d k = d k) := Lib.hid rfl
          go_wp2_with (first | (at_builtin; refine wpList_push _ rfl _ _ rfl (w.heap.size + 1) k d A cap rfl (hO2.alloc _) wr.heap.size rfl ?c1 (by omega) ?c2 ?_))
          case c2 => exact hB2.size
          intro A' cap' w' hO' hgr
          have hB3 := below_grown (hB2.alloc hB2.size _) hgr (Nat.le_trans hB2.size (by simp)) (fun r hr => Nat.le_trans (Nat.le_succ _) (World.ownsRow.lt hO2 r hr).1)
          have hK3 : Bk w' w.heap.size 28 #[.int .i64 u0, .int .i64 u1, .int .i64 u2, .int .i64 u3] := (hgr.block w.heap.size (by simp; have := K02.lt; omega) (fun e => by have := (World.ownsRow.lt hO2 _ e.symm).1; omega)).trans (K02.alloc _)
          go_wp2_with fail
          go_roundg (i - (k + 1))
          case measure => omega
          case rel => exact ⟨k + 1, by omega, rfl, A', cap', rfl, hO', hK3, hB3⟩
    · obtain rfl : k = n := by omega
      go_wp2_with fail
      go_ret
      exact ⟨A, cap, rfl, hO, hB⟩
end Go.Proofs.Ytnjgkgnjbmfpfaa
