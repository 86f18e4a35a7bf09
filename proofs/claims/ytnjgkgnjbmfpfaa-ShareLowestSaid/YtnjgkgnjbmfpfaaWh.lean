/- The walks of the two texts of Lowest: Euclid's loop. -/
import Derived.Test.YtnjgkgnjbmfpfaaWc
import Derived.Test.YtnjgkgnjbmfpfaaWd
import Derived.Test.YtnjgkgnjbmfpfaaLowM
import Derived.StillTailTactics
namespace Go.Proofs.Ytnjgkgnjbmfpfaa
open Go.RowKit Go.Shelf

theorem Shr_ht_zero (b : Int) : Shr.ht 0 b = 0 := ht_0 rfl
theorem wrap_div {p G : Int} (h0 : 0 ≤ p) (h1 : p ≤ 9223372036854775807) (hG : 0 < G) : IntKind.i64.wrap (p.tdiv G) = p / G := by
  rw [Int.tdiv_eq_ediv_of_nonneg h0]
  have a := Int.ediv_le_self G h0
  have b := Int.ediv_nonneg h0 (Int.le_of_lt hG)
  exact IntWalk.i64_in _ (by omega)
theorem below4 (w : World) (o1 o2 o3 o4 : Obj) : Below w.heap.size w ((((w.alloc o1).alloc o2).alloc o3).alloc o4) :=
  ((((Below.refl _ _).alloc (Nat.le_refl _) _).alloc (by simp) _).alloc (by simp; omega) _).alloc (by simp; omega) _
theorem below5 (w : World) (o1 o2 o3 o4 o5 : Obj) : Below w.heap.size w (((((w.alloc o1).alloc o2).alloc o3).alloc o4).alloc o5) := (below4 w o1 o2 o3 o4).alloc (by simp; omega) o5
theorem bk_start4a (w : World) (t : TypeId) (c : Array Value) (o2 o3 o4 : Obj) : Bk ((((w.alloc (.cells c t)).alloc o2).alloc o3).alloc o4) w.heap.size t c := (((Bk.new w t c).alloc _).alloc _).alloc _
theorem bk_start4b (w : World) (t : TypeId) (c : Array Value) (o1 o3 o4 : Obj) : Bk ((((w.alloc o1).alloc (.cells c t)).alloc o3).alloc o4) (w.heap.size + 1) t c := ((Bk.newAt (by simp)).alloc _).alloc _
theorem bk_start5a (w : World) (t : TypeId) (c : Array Value) (o2 o3 o4 o5 : Obj) {n : Nat} : Bk ((((((w.alloc (.cells c t)).alloc o2).alloc o3).alloc o4).alloc o5).drewN n) w.heap.size t c := ((((Bk.new w t c).alloc _).alloc _).alloc _).alloc _
theorem bk_start5b (w : World) (t : TypeId) (c : Array Value) (o1 o3 o4 o5 : Obj) {n : Nat} : Bk ((((((w.alloc o1).alloc (.cells c t)).alloc o3).alloc o4).alloc o5).drewN n) (w.heap.size + 1) t c := (((Bk.newAt (by simp)).alloc _).alloc _).alloc _

set_option maxRecDepth 100000 in
set_option maxHeartbeats 1000000 in
theorem lowest_any (n d : Int) (ln : n ≤ 9223372036854775807) (ld : d ≤ 9223372036854775807) (w : World) :
    Calls Try.prog 22 #[.agg #[.int .i64 n, .int .i64 d]] w fun e w' => e = .returned (.agg #[.int .i64 (Shr.lowN n d), .int .i64 (Shr.lowD n d)]) ∧ Below w.heap.size w w' := by
  have hp := Shr.pl_le ln
  have hq := Shr.pl_le ld
  clear ln ld
  have C1 := Lib.hid (fun w => plain_any n d w)
  have HN : Hid (Shr.lowN n d = if Shr.pl n = 0 then 0 else if Shr.pl d = 0 then 1 else Shr.pl n / Shr.gc (Shr.pl n) (Shr.pl d)) := rfl
  have HD : Hid (Shr.lowD n d = if Shr.pl n = 0 then 1 else if Shr.pl d = 0 then 0 else Shr.pl d / Shr.gc (Shr.pl n) (Shr.pl d)) := rfl
  generalize Shr.pl n = p at *
  generalize Shr.pl d = q at *
  generalize Shr.lowN n d = ln at *
  generalize Shr.lowD n d = ld at *
  by_cases p0 : p = 0
  · have h1 := Lib.hid (HN.out.trans (if_pos p0))
    have h2 := Lib.hid (HD.out.trans (if_pos p0))
    clear HN HD
    subst p0
    go_enter Try.func22, Try.ntmps22
    go_wp2_with fail
    refine (C1.out _).mono ?_
    rintro e w' ⟨rfl, rfl⟩
    go_wp2_with fail; refine (height_any _ _ _).mono ?_; rintro e w2 ⟨rfl, rfl⟩; rw [Shr_ht_zero]
    go_wp2_with fail
    refine bodyPost_ret (v := .agg #[.int .i64 0, .int .i64 1]) (by simp [results, Try.results22, go_sem]) rfl ⟨by rw [h1.out, h2.out], ?_⟩
    exact below5 w _ _ _ _ _
  · by_cases q0 : q = 0
    · have h1 := Lib.hid ((HN.out.trans (if_neg p0)).trans (if_pos q0))
      have h2 := Lib.hid ((HD.out.trans (if_neg p0)).trans (if_pos q0))
      clear HN HD
      subst q0
      have tp : (p == 0) = false := by simpa using p0
      go_enter Try.func22, Try.ntmps22
      go_wp2_with fail
      refine (C1.out _).mono ?_
      rintro e w' ⟨rfl, rfl⟩
      go_wp2_with fail; refine (height_any _ _ _).mono ?_; rintro e w2 ⟨rfl, rfl⟩; rw [ht_2 tp rfl]
      go_wp2_with fail
      refine bodyPost_ret (v := .agg #[.int .i64 1, .int .i64 0]) (by simp [results, Try.results22, go_sem]) rfl ⟨by rw [h1.out, h2.out], ?_⟩
      exact below5 w _ _ _ _ _
    · have h1 := Lib.hid ((HN.out.trans (if_neg p0)).trans (if_neg q0))
      have h2 := Lib.hid ((HD.out.trans (if_neg p0)).trans (if_neg q0))
      clear HN HD
      have tp : (p == 0) = false := by simpa using p0
      have tq : (q == 0) = false := by simpa using q0
      have hg := Shr.gc_pos (p := p) (q := q) (by omega)
      have hpp : 0 < p := by omega
      have hqq : 0 < q := by omega
      clear p0 q0
      go_enter Try.func22, Try.ntmps22
      go_wp2_with fail
      refine (C1.out _).mono ?_
      rintro e w' ⟨rfl, rfl⟩
      go_wp2_with fail; refine (height_any _ _ _).mono ?_; rintro e w2 ⟨rfl, rfl⟩; rw [ht_1 tp tq]
      go_upto_region 7 with fail; go_quiet (fail); go_wp2_with fail
      go_loopg [3, 4] q.toNat (fun g s3 s4 wr => ∃ a b : Int, 0 ≤ a ∧ 0 ≤ b ∧ a ≤ 9223372036854775807 ∧ b ≤ 9223372036854775807 ∧ Shr.gc a b = Shr.gc p q ∧ g = b.toNat ∧ s3 = .int .i64 a ∧ s4 = .int .i64 b ∧
        Bk wr w.heap.size 23 #[.int .i64 p, .int .i64 q] ∧ Bk wr (w.heap.size + 1) 23 #[.int .i64 0, .int .i64 0] ∧ Below w.heap.size w wr)
      case atStart => exact ⟨p, q, hp.1, hq.1, hp.2, hq.2, rfl, rfl, rfl, rfl, bk_start5a w _ _ _ _ _ _, bk_start5b w _ _ _ _ _ _, below_drewN (below5 w _ _ _ _ _) _⟩
      case round =>
        obtain ⟨a, b, ha, hb, ha2, hb2, hgc, hgk, rfl, rfl, x, z, hB⟩ := hrel
        have HG := Lib.hid hgc
        clear hgc
        by_cases hb0 : 0 < b
        · have hm0 := Int.emod_nonneg a (b := b) (by omega)
          have hm1 := Int.emod_lt_of_pos a hb0
          have hs := Lib.hid (Shr.gc_step ha hb0)
          go_upto_region 9 with fail
          go_quiet (fail)
          go_wp2_with fail
          go_roundg (a % b).toNat
          case measure => omega
          case rel => exact ⟨b, a % b, hb, hm0, hb2, by omega, hs.out.symm.trans HG.out, rfl, rfl, rfl, x.drewN _, z.drewN _, below_drewN hB _⟩
        · obtain rfl : b = 0 := by omega
          have hag : a = Shr.gc p q := (Shr.gc_zero ha).symm.trans HG.out
          clear HG
          subst hag
          obtain ⟨hp0, hp1⟩ := hp
          obtain ⟨hq0, hq1⟩ := hq
          generalize Shr.gc p q = G at *
          have tg : (G == 0) = false := by simp; omega
          have wd1 := wrap_div hp0 hp1 hg
          have wd2 := wrap_div hq0 hq1 hg
          have xc0 : wr.cell? ⟨w.heap.size, 0, none⟩ = some (.int .i64 p) := x.cell rfl
          have xc1 : wr.cell? ⟨w.heap.size, 1, none⟩ = some (.int .i64 q) := x.cell rfl
          have zc0 : wr.cell? ⟨w.heap.size + 1, 0, none⟩ = some (.int .i64 0) := z.cell rfl
          have zc1 : wr.cell? ⟨w.heap.size + 1, 1, none⟩ = some (.int .i64 0) := z.cell rfl
          have zf0 := z.free 0
          have zf1 := z.free 1
          go_upto_region 10 with fail
          go_region
          all_goals
            go_wp2_with fail
            exact bodyPost_ret (v := .agg #[.int .i64 (p / G), .int .i64 (q / G)]) (by simp [results, Try.results22, go_sem, zc0, zc1]) rfl ⟨by rw [h1.out, h2.out], ((hB.setCell (by simp) _).setCell (by simp) _).drew⟩

set_option maxRecDepth 100000 in
set_option maxHeartbeats 1000000 in
theorem rlowest_any (n d : Int) (ln : n ≤ 9223372036854775807) (ld : d ≤ 9223372036854775807) (w : World) :
    Calls Try.prog 23 #[.agg #[.int .i64 n, .int .i64 d]] w fun e w' => e = .returned (.agg #[.int .i64 (Shr.lowN n d), .int .i64 (Shr.lowD n d)]) ∧ Below w.heap.size w w' := by
  have hp := Shr.pl_le ln
  have hq := Shr.pl_le ld
  clear ln ld
  have C1 := Lib.hid (fun w => rplain_any n d _ _ rfl rfl w)
  have HN : Hid (Shr.lowN n d = if Shr.pl n = 0 then 0 else if Shr.pl d = 0 then 1 else Shr.pl n / Shr.gc (Shr.pl n) (Shr.pl d)) := rfl
  have HD : Hid (Shr.lowD n d = if Shr.pl n = 0 then 1 else if Shr.pl d = 0 then 0 else Shr.pl d / Shr.gc (Shr.pl n) (Shr.pl d)) := rfl
  generalize Shr.pl n = p at *
  generalize Shr.pl d = q at *
  generalize Shr.lowN n d = ln at *
  generalize Shr.lowD n d = ld at *
  by_cases p0 : p = 0
  · have h1 := Lib.hid (HN.out.trans (if_pos p0))
    have h2 := Lib.hid (HD.out.trans (if_pos p0))
    clear HN HD
    subst p0
    go_enter Try.func23, Try.ntmps23
    go_wp2_with fail
    refine (C1.out _).mono ?_
    rintro e w' ⟨rfl, rfl⟩
    go_wp2_with fail
    refine bodyPost_ret (v := .agg #[.int .i64 0, .int .i64 1]) (by simp [results, Try.results23, go_sem]) rfl ⟨by rw [h1.out, h2.out], ?_⟩
    exact below4 w _ _ _ _
  · by_cases q0 : q = 0
    · have h1 := Lib.hid ((HN.out.trans (if_neg p0)).trans (if_pos q0))
      have h2 := Lib.hid ((HD.out.trans (if_neg p0)).trans (if_pos q0))
      clear HN HD
      subst q0
      have tp : (p == 0) = false := by simpa using p0
      go_enter Try.func23, Try.ntmps23
      go_wp2_with fail
      refine (C1.out _).mono ?_
      rintro e w' ⟨rfl, rfl⟩
      go_wp2_with fail
      refine bodyPost_ret (v := .agg #[.int .i64 1, .int .i64 0]) (by simp [results, Try.results23, go_sem]) rfl ⟨by rw [h1.out, h2.out], ?_⟩
      exact below4 w _ _ _ _
    · have h1 := Lib.hid ((HN.out.trans (if_neg p0)).trans (if_neg q0))
      have h2 := Lib.hid ((HD.out.trans (if_neg p0)).trans (if_neg q0))
      clear HN HD
      have tp : (p == 0) = false := by simpa using p0
      have tq : (q == 0) = false := by simpa using q0
      have hg := Shr.gc_pos (p := p) (q := q) (by omega)
      have hpp : 0 < p := by omega
      have hqq : 0 < q := by omega
      clear p0 q0
      go_enter Try.func23, Try.ntmps23
      go_wp2_with fail
      refine (C1.out _).mono ?_
      rintro e w' ⟨rfl, rfl⟩
      go_wp2_with fail
      go_loopg [3, 4] q.toNat (fun g s3 s4 wr => ∃ a b : Int, 0 ≤ a ∧ 0 ≤ b ∧ a ≤ 9223372036854775807 ∧ b ≤ 9223372036854775807 ∧ Shr.gc a b = Shr.gc p q ∧ g = b.toNat ∧ s3 = .int .i64 a ∧ s4 = .int .i64 b ∧
        Bk wr w.heap.size 23 #[.int .i64 p, .int .i64 q] ∧ Bk wr (w.heap.size + 1) 23 #[.int .i64 0, .int .i64 0] ∧ Below w.heap.size w wr)
      case atStart => exact ⟨p, q, hp.1, hq.1, hp.2, hq.2, rfl, rfl, rfl, rfl, bk_start4a w _ _ _ _ _, bk_start4b w _ _ _ _ _, below4 w _ _ _ _⟩
      case round =>
        obtain ⟨a, b, ha, hb, ha2, hb2, hgc, hgk, rfl, rfl, x, z, hB⟩ := hrel
        have HG := Lib.hid hgc
        clear hgc
        by_cases hb0 : 0 < b
        · have hm0 := Int.emod_nonneg a (b := b) (by omega)
          have hm1 := Int.emod_lt_of_pos a hb0
          have hs := Lib.hid (Shr.gc_step ha hb0)
          go_upto_region 9 with fail
          go_quiet (fail)
          go_wp2_with fail
          go_roundg (a % b).toNat
          case measure => omega
          case rel => exact ⟨b, a % b, hb, hm0, hb2, by omega, hs.out.symm.trans HG.out, rfl, rfl, rfl, x.drewN _, z.drewN _, below_drewN hB _⟩
        · obtain rfl : b = 0 := by omega
          have hag : a = Shr.gc p q := (Shr.gc_zero ha).symm.trans HG.out
          clear HG
          subst hag
          obtain ⟨hp0, hp1⟩ := hp
          obtain ⟨hq0, hq1⟩ := hq
          generalize Shr.gc p q = G at *
          have tg : (G == 0) = false := by simp; omega
          have wd1 := wrap_div hp0 hp1 hg
          have wd2 := wrap_div hq0 hq1 hg
          have xc0 : wr.cell? ⟨w.heap.size, 0, none⟩ = some (.int .i64 p) := x.cell rfl
          have xc1 : wr.cell? ⟨w.heap.size, 1, none⟩ = some (.int .i64 q) := x.cell rfl
          have zc0 : wr.cell? ⟨w.heap.size + 1, 0, none⟩ = some (.int .i64 0) := z.cell rfl
          have zc1 : wr.cell? ⟨w.heap.size + 1, 1, none⟩ = some (.int .i64 0) := z.cell rfl
          have zf0 := z.free 0
          have zf1 := z.free 1
          go_upto_region 10 with fail
          go_region
          all_goals
            go_wp2_with fail
            exact bodyPost_ret (v := .agg #[.int .i64 (p / G), .int .i64 (q / G)]) (by simp [results, Try.results23, go_sem, zc0, zc1]) rfl ⟨by rw [h1.out, h2.out], ((hB.setCell (by simp) _).setCell (by simp) _).drew⟩

end Go.Proofs.Ytnjgkgnjbmfpfaa
