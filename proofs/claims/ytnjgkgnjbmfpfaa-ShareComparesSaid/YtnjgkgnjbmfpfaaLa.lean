/- The walk of the law ShareCompares: the program's comparison and the reference's answer alike. -/
import Derived.Test.YtnjgkgnjbmfpfaaWg
import Derived.Test.YtnjgkgnjbmfpfaaRow
namespace Go.Proofs.Ytnjgkgnjbmfpfaa
open Go.RowKit Go.Shelf

set_option maxHeartbeats 1000000 in
theorem walk_ShareCompares (a b c d : Int) (ha : In64 a) (hb : In64 b) (hc : In64 c) (hd : In64 d) (w : World) :
    Calls Try.prog 3 #[.agg #[.int .i64 a, .int .i64 b], .agg #[.int .i64 c, .int .i64 d]] w fun e w' => e = .returned (.bool true) ∧ Below w.heap.size w w' := by
  obtain ⟨_, ha⟩ := ha
  obtain ⟨_, hb⟩ := hb
  obtain ⟨_, hc⟩ := hc
  obtain ⟨_, hd⟩ := hd
  go_enter Try.func3, Try.ntmps3
  go_wp2_with fail
  refine (awake_any _).mono ?_
  rintro e w1 ⟨rfl, hb1⟩
  have a0 := keep_below (((Bk.new w 23 #[.int .i64 a, .int .i64 b]).alloc (.cells #[.int .i64 c, .int .i64 d] 23)).cell (i := 0) rfl) hb1
  have a1 := keep_below (((Bk.new w 23 #[.int .i64 a, .int .i64 b]).alloc (.cells #[.int .i64 c, .int .i64 d] 23)).cell (i := 1) rfl) hb1
  have b0 := keep_below ((Bk.newAt (t := 23) (cs := #[.int .i64 c, .int .i64 d]) (g := w.heap.size + 1) (W := w.alloc (.cells #[.int .i64 a, .int .i64 b] 23)) (by simp)).cell (i := 0) rfl) hb1
  have b1 := keep_below ((Bk.newAt (t := 23) (cs := #[.int .i64 c, .int .i64 d]) (g := w.heap.size + 1) (W := w.alloc (.cells #[.int .i64 a, .int .i64 b] 23)) (by simp)).cell (i := 1) rfl) hb1
  simp at a0 a1 b0 b1
  have hB := below_pass (((Below.refl w.heap.size w).alloc (Nat.le_refl _) (.cells #[.int .i64 a, .int .i64 b] 23)).alloc (by simp) (.cells #[.int .i64 c, .int .i64 d] 23)) (by simp; omega) hb1
  clear hb1
  go_upto_region 4 with fail
  go_region_held3 (fun w' => w'.cell? ⟨w.heap.size, 0, none⟩ = some (.int .i64 a) ∧ w'.cell? ⟨w.heap.size, 1, none⟩ = some (.int .i64 b) ∧ w'.cell? ⟨w.heap.size + 1, 0, none⟩ = some (.int .i64 c) ∧ w'.cell? ⟨w.heap.size + 1, 1, none⟩ = some (.int .i64 d)) (first | (refine ⟨?_, ?_, ?_, ?_⟩ <;> assumption) | assumption | exact keepB4 (by assumption) (by assumption)) (first | (go_at_call 17; refine (compare_any _ _ _ _ ha hb hc hd _).mono ?_; rintro e w' ⟨rfl, hbx⟩) | (go_at_call 18; refine (rcompare_all _ _ _ _ ha hb hc hd _).mono ?_; rintro e w' ⟨rfl, hbx⟩))
  have hB1 := below_pass hB.drew hB.size (by assumption)
  have hB2 := below_pass hB1 hB1.size hbx
  go_wp2_with fail
  go_ret
  exact ⟨by simp, hB2⟩

end Go.Proofs.Ytnjgkgnjbmfpfaa
