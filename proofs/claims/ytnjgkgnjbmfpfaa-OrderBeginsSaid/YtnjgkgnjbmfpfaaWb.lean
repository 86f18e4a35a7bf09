/- The walk of share.Compare. -/
import Derived.Shelf.Bits.Mul64
import Derived.Test.YtnjgkgnjbmfpfaaWa
import Derived.Deep.QuietTactic
import Derived.BigQuiet
import Derived.Lib.Hide
import Derived.Deep.RegionWith
import Derived.Deep.RegionHeld3
import Derived.Deep.DeepCutAuto
namespace Go.Proofs.Ytnjgkgnjbmfpfaa
open Go.RowKit Go.Shelf


def Try.lays264_ren : Go.Shelf.Ren := ⟨fun | 264 => 38 | n => n, fun | 53 => 59 | 46 => 73 | n => n, fun | n => n⟩
theorem Try.lays264 : Go.Proofs.Lays.n264 Try.prog Try.lays264_ren := {
  mixed := by kernel_rfl
  f264 := Try.func38.trans (congrArg some (by kernel_rfl))
  t46 := Try.underlying73
  a46 := Try.isAgg73
  z46 := Try.sizeOf73
  v46 := Try.zeroValue73
  t53 := Try.underlying59
  a53 := Try.isAgg59
  z53 := Try.sizeOf59
  v53 := Try.zeroValue59 }

theorem mul64_any (x y : Int) (hx0 : 0 ≤ x) (hx : x ≤ 9223372036854775807) (hy0 : 0 ≤ y) (hy : y ≤ 9223372036854775807) (w : World) :
    Calls Try.prog 38 #[.int .u64 x, .int .u64 y] w fun e w' => e = .returned (.tuple #[.int .u64 (Shr.hi x y), .int .u64 (Shr.lo x y)]) ∧ w = w' := by
  obtain ⟨m, rfl⟩ := Int.eq_ofNat_of_zero_le hx0
  obtain ⟨n, rfl⟩ := Int.eq_ofNat_of_zero_le hy0
  refine (Any.bits_Mul64 Try.lays264 m n (by omega) (by omega) w).mono ?_
  rintro e w' ⟨rfl, rfl⟩
  refine ⟨?_, rfl⟩
  unfold Shr.hi Shr.lo
  rw [Int.natCast_ediv, Int.natCast_emod, Int.natCast_mul]
  rfl

theorem bcell {W w1 : World} (hb : Below W.heap.size W w1) : (∀ b o, b < W.heap.size → w1.cell? ⟨b, o, none⟩ = W.cell? ⟨b, o, none⟩) ∧ (∀ b o, b < W.heap.size → w1.frozen? ⟨b, o, none⟩ = W.frozen? ⟨b, o, none⟩) :=
  ⟨fun b o h => hb.cell (p := ⟨b, o, none⟩) h, fun b o h => hb.frozen (p := ⟨b, o, none⟩) h⟩
theorem kcell {W w1 : World} (hb : Below W.heap.size W w1) {b : Nat} (h : b < W.heap.size) : (∀ o, w1.cell? ⟨b, o, none⟩ = W.cell? ⟨b, o, none⟩) ∧ (∀ o, w1.frozen? ⟨b, o, none⟩ = W.frozen? ⟨b, o, none⟩) ∧ b < w1.heap.size :=
  ⟨fun o => hb.cell (p := ⟨b, o, none⟩) h, fun o => hb.frozen (p := ⟨b, o, none⟩) h, Nat.lt_of_lt_of_le h hb.size⟩

theorem cell_al2 {W : World} {o1 o2 : Obj} {p : Addr} {v : Option Value} (hc : W.cell? p = v) (h : p.block < W.heap.size) : ((W.alloc o1).alloc o2).drew.cell? p = v :=
  ((World.cell?_alloc_lt _ o2 p (by simp; omega)).trans (World.cell?_alloc_lt W o1 p h)).trans hc
set_option maxHeartbeats 1000000 in
theorem compare_any (a b c d : Int) (ha : a ≤ 9223372036854775807) (hb : b ≤ 9223372036854775807) (hc : c ≤ 9223372036854775807) (hd : d ≤ 9223372036854775807) (w : World) :
    Calls Try.prog 17 #[.agg #[.int .i64 a, .int .i64 b], .agg #[.int .i64 c, .int .i64 d]] w fun e w' => e = .returned (.int .i64 (Shr.cmp a b c d)) ∧ Below w.heap.size w w' := by
  have pa : 0 ≤ Shr.pl a ∧ Shr.pl a ≤ 9223372036854775807 := by unfold Shr.pl; omega
  have pb : 0 ≤ Shr.pl b ∧ Shr.pl b ≤ 9223372036854775807 := by unfold Shr.pl; omega
  have pc : 0 ≤ Shr.pl c ∧ Shr.pl c ≤ 9223372036854775807 := by unfold Shr.pl; omega
  have pd : 0 ≤ Shr.pl d ∧ Shr.pl d ≤ 9223372036854775807 := by unfold Shr.pl; omega
  unfold Shr.cmp
  go_enter Try.func17, Try.ntmps17
  go_upto_region 1 with fail
  go_cut [] (fun wx => wx.cell? ⟨w.heap.size, 0, none⟩ = some (.int .i64 (Shr.pl a)) ∧ wx.cell? ⟨w.heap.size, 1, none⟩ = some (.int .i64 (Shr.pl b)) ∧
    wx.cell? ⟨w.heap.size + 1, 0, none⟩ = some (.int .i64 (Shr.pl c)) ∧ wx.cell? ⟨w.heap.size + 1, 1, none⟩ = some (.int .i64 (Shr.pl d)) ∧ w.heap.size + 1 < wx.heap.size ∧ Below w.heap.size w wx)
  case first =>
    clear pa pb pc pd ha hb hc hd
    go_region_with (go_at_call 35; refine (plain_any _ _ _).mono ?_; rintro e w' ⟨rfl, rfl⟩)
    all_goals
      go_wp2_with fail
      go_meet
      refine ⟨by go_simp, by go_simp, by go_simp, by go_simp, by (simp), ?_⟩
      exact (((((((Below.refl _ _).alloc (Nat.le_refl _) _).alloc (by simp) _).alloc (by simp; omega) _).alloc (by simp; omega) _).alloc (by simp; omega) _).alloc (by simp; omega) _).drew
  case rest =>
    obtain ⟨a0, a1, b0, b1, hz, hB⟩ := hcut
    clear ha hb hc hd
    by_cases hq : Shr.pl a = Shr.pl c ∧ Shr.pl b = Shr.pl d
    · obtain ⟨hq1, hq2⟩ := hq
      have HF := Lib.hid (Shr.cmpP_same hq1 hq2)
      rw [← hq1] at b0
      rw [← hq2] at b1
      clear hq1 hq2
      go_wp2
      go_ret
      exact ⟨ret_int HF.out.symm, hB⟩
    · go_upto_region 4 with fail
      all_goals
        clear hq
        first | (rename_i h1 h2 _ _; clear h1 h2) | (rename_i h2 _ _; clear h2)
        go_cut [5, 6] (fun s5 s6 wx => s5 = .int .i64 (Shr.ht (Shr.pl a) (Shr.pl b)) ∧ s6 = .int .i64 (Shr.ht (Shr.pl c) (Shr.pl d)) ∧ wx.cell? ⟨w.heap.size, 0, none⟩ = some (.int .i64 (Shr.pl a)) ∧ wx.cell? ⟨w.heap.size, 1, none⟩ = some (.int .i64 (Shr.pl b)) ∧
          wx.cell? ⟨w.heap.size + 1, 0, none⟩ = some (.int .i64 (Shr.pl c)) ∧ wx.cell? ⟨w.heap.size + 1, 1, none⟩ = some (.int .i64 (Shr.pl d)) ∧ w.heap.size + 1 < wx.heap.size ∧ Below w.heap.size w wx)
        case first =>
          clear pa pb pc pd
          go_region_with (go_at_call 36; refine (height_any _ _ _).mono ?_; rintro e w' ⟨rfl, rfl⟩)
          all_goals
            go_wp2_with fail
            go_meet
            exact ⟨rfl, rfl, cell_al2 a0 (by simp; omega), cell_al2 a1 (by simp; omega), cell_al2 b0 hz, cell_al2 b1 hz, by simp; omega, ((hB.alloc hB.size _).alloc (by have := hB.size; simp; omega) _).drew⟩
        case rest =>
          obtain ⟨rfl, rfl, a0, a1, b0, b1, hz, hB⟩ := hcut
          have h1 := Shr.ht_range (Shr.pl a) (Shr.pl b)
          have h2 := Shr.ht_range (Shr.pl c) (Shr.pl d)
          have HH : Hid (¬ (Shr.ht (Shr.pl a) (Shr.pl b) = 1 ∧ Shr.ht (Shr.pl c) (Shr.pl d) = 1) → Shr.cmpP (Shr.pl a) (Shr.pl b) (Shr.pl c) (Shr.pl d) = Shr.sg (Shr.ht (Shr.pl a) (Shr.pl b)) (Shr.ht (Shr.pl c) (Shr.pl d))) := Shr.cmpP_ht
          have HM : Hid (Shr.ht (Shr.pl a) (Shr.pl b) = 1 → Shr.ht (Shr.pl c) (Shr.pl d) = 1 → Shr.cmpP (Shr.pl a) (Shr.pl b) (Shr.pl c) (Shr.pl d) = Shr.sg ((Shr.pl a) * (Shr.pl d)) ((Shr.pl c) * (Shr.pl b))) := Shr.cmpP_mul
          generalize Shr.ht (Shr.pl a) (Shr.pl b) = x at *
          generalize Shr.ht (Shr.pl c) (Shr.pl d) = y at *
          by_cases e1 : x = 1
          · subst e1
            by_cases e2 : y = 1
            · subst e2
              have hm := Lib.hid (HM.out rfl rfl)
              clear HM HH
              go_wp2_with (first | (go_at_call 38; refine (mul64_any _ _ (by omega) (by omega) (by omega) (by omega) _).mono ?_; rintro e w' ⟨rfl, rfl⟩) | (go_at_call 37; refine (sign_any _ _ _).mono ?_; rintro e w' ⟨rfl, rfl⟩))
              · go_ret
                exact ⟨ret_int ((Shr.sg_hi pa.1 pb.1 pc.1 pd.1 (by simpa using ‹(Shr.hi (Shr.pl a) (Shr.pl d) != Shr.hi (Shr.pl c) (Shr.pl b)) = true›)).symm.trans hm.out.symm), hB⟩
              · go_ret
                exact ⟨ret_int ((Shr.sg_lo (by simpa using ‹(Shr.hi (Shr.pl a) (Shr.pl d) != Shr.hi (Shr.pl c) (Shr.pl b)) = false›)).symm.trans hm.out.symm), hB⟩
            · have hm := Lib.hid (HH.out (fun h => e2 h.2))
              clear HM HH
              go_wp2_with (go_at_call 37; refine (sign_any _ _ _).mono ?_; rintro e w' ⟨rfl, rfl⟩)
              go_ret
              exact ⟨ret_int hm.out.symm, hB⟩
          · have hm := Lib.hid (HH.out (fun h => e1 h.1))
            clear HM HH
            go_wp2_with (go_at_call 37; refine (sign_any _ _ _).mono ?_; rintro e w' ⟨rfl, rfl⟩)
            go_ret
            exact ⟨ret_int hm.out.symm, hB⟩

end Go.Proofs.Ytnjgkgnjbmfpfaa
