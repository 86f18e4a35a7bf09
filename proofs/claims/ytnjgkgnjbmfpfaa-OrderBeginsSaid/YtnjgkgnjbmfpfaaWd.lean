/- The walk of share.Dominant: the resources one by one, the best so far kept. -/
import Derived.Test.YtnjgkgnjbmfpfaaWb
import Derived.Test.YtnjgkgnjbmfpfaaDomM
import Derived.Deep.LoopGhost
namespace Go.Proofs.Ytnjgkgnjbmfpfaa
open Go.RowKit Go.Shelf

theorem four_cell {a b c d : Int} {k : Nat} (h : k < 4) : (#[Value.int .i64 a, .int .i64 b, .int .i64 c, .int .i64 d] : Array Value)[k]? = some (.int .i64 (Shr.four a b c d k)) := by
  have h5 : k = 0 ∨ k = 1 ∨ k = 2 ∨ k = 3 := by omega
  rcases h5 with rfl | rfl | rfl | rfl <;> rfl

set_option maxHeartbeats 1000000 in
theorem dominant_any (h0 h1 h2 h3 u0 u1 u2 u3 : Int) (lh0 : h0 ≤ 9223372036854775807) (lh1 : h1 ≤ 9223372036854775807) (lh2 : h2 ≤ 9223372036854775807) (lh3 : h3 ≤ 9223372036854775807)
    (lu0 : u0 ≤ 9223372036854775807) (lu1 : u1 ≤ 9223372036854775807) (lu2 : u2 ≤ 9223372036854775807) (lu3 : u3 ≤ 9223372036854775807) (w : World) :
    Calls Try.prog 19 #[.agg #[.int .i64 h0, .int .i64 h1, .int .i64 h2, .int .i64 h3], .agg #[.int .i64 u0, .int .i64 u1, .int .i64 u2, .int .i64 u3]] w fun e w' =>
      e = .returned (.tuple #[.agg #[.int .i64 (Shr.dom (Shr.four h0 h1 h2 h3) (Shr.four u0 u1 u2 u3)).n, .int .i64 (Shr.dom (Shr.four h0 h1 h2 h3) (Shr.four u0 u1 u2 u3)).d], .int .i64 (Shr.dom (Shr.four h0 h1 h2 h3) (Shr.four u0 u1 u2 u3)).at_]) ∧ Below w.heap.size w w' := by
  go_enter Try.func19, Try.ntmps19
  go_wp2
  go_loopg [7, 11] 4 (fun g s7 s11 wr => ∃ k : Nat, k ≤ 4 ∧ g = 4 - k ∧ s11 = .int .i64 k ∧ s7 = .int .i64 (Shr.domN (Shr.four h0 h1 h2 h3) (Shr.four u0 u1 u2 u3) k).at_ ∧
    Bk wr w.heap.size 28 #[.int .i64 h0, .int .i64 h1, .int .i64 h2, .int .i64 h3] ∧ Bk wr (w.heap.size + 1) 28 #[.int .i64 u0, .int .i64 u1, .int .i64 u2, .int .i64 u3] ∧
    Bk wr (w.heap.size + 2) 23 #[.int .i64 0, .int .i64 0] ∧
    Bk wr (w.heap.size + 3) 23 #[.int .i64 (Shr.domN (Shr.four h0 h1 h2 h3) (Shr.four u0 u1 u2 u3) k).n, .int .i64 (Shr.domN (Shr.four h0 h1 h2 h3) (Shr.four u0 u1 u2 u3) k).d] ∧ Below w.heap.size w wr)
  case atStart => exact ⟨0, by omega, by omega, rfl, rfl, (((Bk.newAt rfl).alloc _).alloc _).alloc _, ((Bk.newAt (by simp)).alloc _).alloc _, (Bk.newAt (by simp)).alloc _, Bk.newAt (by simp), ((((Below.refl _ _).alloc (Nat.le_refl _) _).alloc (by simp) _).alloc (by simp; omega) _).alloc (by simp; omega) _⟩
  case round =>
    obtain ⟨k, hk, hg, rfl, rfl, b0, b1, b2, b3, hB⟩ := hrel
    have hr := Shr.domN_range (Shr.four h0 h1 h2 h3) (Shr.four u0 u1 u2 u3) (by intro k; unfold Shr.four; split <;> assumption) (by intro k; unfold Shr.four; split <;> assumption) k
    by_cases h4 : k < 4
    · have HS : Hid (Shr.domN (Shr.four h0 h1 h2 h3) (Shr.four u0 u1 u2 u3) (k + 1) = Shr.domStep k (Shr.domN (Shr.four h0 h1 h2 h3) (Shr.four u0 u1 u2 u3) k) (Shr.four h0 h1 h2 h3 k) (Shr.four u0 u1 u2 u3 k)) := rfl
      generalize Shr.domN (Shr.four h0 h1 h2 h3) (Shr.four u0 u1 u2 u3) k = bs at *
      obtain ⟨bn, bd, ba⟩ := bs
      simp only at hr b3 HS
      have hx : wr.cell? ⟨w.heap.size, k, none⟩ = some (.int .i64 (Shr.four h0 h1 h2 h3 k)) := b0.cell (four_cell h4)
      have hy : wr.cell? ⟨w.heap.size + 1, k, none⟩ = some (.int .i64 (Shr.four u0 u1 u2 u3 k)) := b1.cell (four_cell h4)
      have hxl : Shr.four h0 h1 h2 h3 k ≤ 9223372036854775807 := by unfold Shr.four; split <;> assumption
      have hyl : Shr.four u0 u1 u2 u3 k ≤ 9223372036854775807 := by unfold Shr.four; split <;> assumption
      generalize Shr.four h0 h1 h2 h3 k = x at *
      generalize Shr.four u0 u1 u2 u3 k = y at *
      have e0 := World.new_ne wr _ hx
      have e1 := World.new_ne wr _ hy
      go_upto_region 5 with fail
      go_cut [9] (fun s9 wx => ∃ g9 : Nat, s9 = .pointer (some ⟨g9, 0, none⟩) ∧ w.heap.size + 3 < g9 ∧ Bk wx g9 23 #[.int .i64 (Shr.pl x), .int .i64 (Shr.pl y)] ∧
        Bk wx w.heap.size 28 #[.int .i64 h0, .int .i64 h1, .int .i64 h2, .int .i64 h3] ∧ Bk wx (w.heap.size + 1) 28 #[.int .i64 u0, .int .i64 u1, .int .i64 u2, .int .i64 u3] ∧
        Bk wx (w.heap.size + 2) 23 #[.int .i64 0, .int .i64 0] ∧ Bk wx (w.heap.size + 3) 23 #[.int .i64 bn, .int .i64 bd] ∧ Below w.heap.size w wx)
      case first =>
        go_region_held3 (fun w' => w'.cell? ⟨w.heap.size, k, none⟩ = some (.int .i64 x) ∧ w'.cell? ⟨w.heap.size + 1, k, none⟩ = some (.int .i64 y)) (refine ⟨?_, ?_⟩ <;> repeat (first | assumption | refine keep_alloc ?_ | refine keep_drew ?_)) (first | (go_at_call 35; refine (plain_any _ _ _).mono ?_; rintro e w' ⟨rfl, rfl⟩))
        all_goals
          go_wp2_with fail
          go_meet
          have hz := b3.lt
          first
          | (refine ⟨wr.heap.size + 1 + 1, rfl, ?_⟩; exact ⟨by omega, (Bk.newAt (by simp)).drew, (((b0.alloc _).alloc _).alloc _).drew, (((b1.alloc _).alloc _).alloc _).drew, (((b2.alloc _).alloc _).alloc _).drew, (((b3.alloc _).alloc _).alloc _).drew, (((hB.alloc (by omega) _).alloc (by simp; omega) _).alloc (by simp; omega) _).drew⟩)
          | (refine ⟨wr.heap.size, rfl, ?_⟩; exact ⟨by omega, (((Bk.newAt rfl).alloc _).alloc _).drew, (((b0.alloc _).alloc _).alloc _).drew, (((b1.alloc _).alloc _).alloc _).drew, (((b2.alloc _).alloc _).alloc _).drew, (((b3.alloc _).alloc _).alloc _).drew, (((hB.alloc (by omega) _).alloc (by simp; omega) _).alloc (by simp; omega) _).drew⟩)
      case rest =>
        obtain ⟨g9, rfl, hg9, b9, b0, b1, b2, b3, hB⟩ := hcut
        clear hx hy e0 e1
        have hxp := Shr.pl_le hxl
        have hyp := Shr.pl_le hyl
        have x0 : wc.cell? ⟨g9, 0, none⟩ = some (.int .i64 (Shr.pl x)) := b9.cell rfl
        have x1 : wc.cell? ⟨g9, 1, none⟩ = some (.int .i64 (Shr.pl y)) := b9.cell rfl
        have y0 : wc.cell? ⟨w.heap.size + 3, 0, none⟩ = some (.int .i64 bn) := b3.cell rfl
        have y1 : wc.cell? ⟨w.heap.size + 3, 1, none⟩ = some (.int .i64 bd) := b3.cell rfl
        have f0 := b3.free 0
        have f1 := b3.free 1
        by_cases k0 : k = 0
        · have HK := Lib.hid k0
          have hs := Lib.hid (Shr.domStep_yes (i := k) (b := ⟨bn, bd, ba⟩) (x := x) (y := y) (Or.inl k0))
          have ht : ((k : Int) == 0) = true := by simp [k0]
          clear k0
          go_wp2_with fail
          go_roundg (4 - (k + 1))
          case measure => omega
          case rel => exact ⟨k + 1, by omega, rfl, by go_num, by rw [HS.out, hs.out], (b0.far (by dsimp only; omega) _).far (by dsimp only; omega) _, (b1.far (by dsimp only; omega) _).far (by dsimp only; omega) _, (b2.far (by dsimp only; omega) _).far (by dsimp only; omega) _, by rw [HS.out, hs.out]; exact (b3.set 0 _).set 1 _, (hB.setCell (by dsimp only; omega) _).setCell (by dsimp only; omega) _⟩
        · have hs1 := Lib.hid k0
          have ht : ((k : Int) == 0) = false := by simp; omega
          clear k0
          by_cases hgt : 0 < Shr.cmp (Shr.pl x) (Shr.pl y) bn bd
          · have hs := Lib.hid (Shr.domStep_yes (i := k) (b := ⟨bn, bd, ba⟩) (x := x) (y := y) (Or.inr hgt))
            go_wp2_with fail
            refine (compare_any _ _ _ _ hxp.2 hyp.2 hr.2.1 hr.2.2.2.1 _).mono ?_
            rintro e w2 ⟨rfl, hb2⟩
            clear x0 x1 y0 y1 f0 f1
            have b0 := b0.pass hb2
            have b1 := b1.pass hb2
            have b2 := b2.pass hb2
            have b3 := b3.pass hb2
            have b9 := b9.pass hb2
            have hB := below_pass hB hB.size hb2
            have x0 : w2.cell? ⟨g9, 0, none⟩ = some (.int .i64 (Shr.pl x)) := b9.cell rfl
            have x1 : w2.cell? ⟨g9, 1, none⟩ = some (.int .i64 (Shr.pl y)) := b9.cell rfl
            have y0 : w2.cell? ⟨w.heap.size + 3, 0, none⟩ = some (.int .i64 bn) := b3.cell rfl
            have y1 : w2.cell? ⟨w.heap.size + 3, 1, none⟩ = some (.int .i64 bd) := b3.cell rfl
            have f0 := b3.free 0
            have f1 := b3.free 1
            go_wp2_with fail
            go_roundg (4 - (k + 1))
            case measure => omega
            case rel => exact ⟨k + 1, by omega, rfl, by go_num, by rw [HS.out, hs.out], (b0.far (by dsimp only; omega) _).far (by dsimp only; omega) _, (b1.far (by dsimp only; omega) _).far (by dsimp only; omega) _, (b2.far (by dsimp only; omega) _).far (by dsimp only; omega) _, by rw [HS.out, hs.out]; exact (b3.set 0 _).set 1 _, (hB.setCell (by dsimp only; omega) _).setCell (by dsimp only; omega) _⟩
          · have hs := Lib.hid (Shr.domStep_no (i := k) (b := ⟨bn, bd, ba⟩) (x := x) (y := y) hs1.out hgt)
            go_wp2_with fail
            refine (compare_any _ _ _ _ hxp.2 hyp.2 hr.2.1 hr.2.2.2.1 _).mono ?_
            rintro e w2 ⟨rfl, hb2⟩
            clear x0 x1 y0 y1 f0 f1
            have b0 := b0.pass hb2
            have b1 := b1.pass hb2
            have b2 := b2.pass hb2
            have b3 := b3.pass hb2
            have hB := below_pass hB hB.size hb2
            go_wp2_with fail
            go_roundg (4 - (k + 1))
            case measure => omega
            case rel => exact ⟨k + 1, by omega, rfl, by go_num, by rw [HS.out, hs.out], b0, b1, b2, by rw [HS.out, hs.out]; exact b3, hB⟩
    · obtain rfl : k = 4 := by omega
      have y0 := b3.cell (i := 0) rfl
      have y1 := b3.cell (i := 1) rfl
      have z0 := b2.cell (i := 0) rfl
      have z1 := b2.cell (i := 1) rfl
      have f0 := b2.free 0
      have f1 := b2.free 1
      simp at y0 y1 z0 z1
      go_wp2_with fail
      exact bodyPost_ret (v := .tuple #[.agg #[.int .i64 (Shr.domN (Shr.four h0 h1 h2 h3) (Shr.four u0 u1 u2 u3) 4).n, .int .i64 (Shr.domN (Shr.four h0 h1 h2 h3) (Shr.four u0 u1 u2 u3) 4).d], .int .i64 (Shr.domN (Shr.four h0 h1 h2 h3) (Shr.four u0 u1 u2 u3) 4).at_]) (by simp [results, Try.results19, go_sem, z0, z1]) rfl ⟨rfl, (hB.setCell (by dsimp only; omega) _).setCell (by dsimp only; omega) _⟩

end Go.Proofs.Ytnjgkgnjbmfpfaa
