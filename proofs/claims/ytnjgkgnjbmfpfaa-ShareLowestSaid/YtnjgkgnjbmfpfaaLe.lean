/- The walk of the law ShareLowest. -/
import Derived.Test.YtnjgkgnjbmfpfaaWg
import Derived.Test.YtnjgkgnjbmfpfaaWh
import Derived.Test.YtnjgkgnjbmfpfaaRow
namespace Go.Proofs.Ytnjgkgnjbmfpfaa
open Go.RowKit Go.Shelf

set_option maxRecDepth 100000 in
set_option maxHeartbeats 1000000 in
theorem walk_ShareLowest (n d : Int) (hn : In64 n) (hd : In64 d) (w : World) :
    Calls Try.prog 8 #[.agg #[.int .i64 n, .int .i64 d]] w fun e w' => e = .returned (.bool true) ∧ Below w.heap.size w w' := by
  have hr := Shr.low_range hn.2 hd.2
  have C1 := Lib.hid (fun w => lowest_any n d hn.2 hd.2 w)
  have C2 := Lib.hid (fun w => rlowest_any n d hn.2 hd.2 w)
  have C3 := Lib.hid (fun w => compare_any (Shr.lowN n d) (Shr.lowD n d) n d hr.2.1 hr.2.2.2 hn.2 hd.2 w)
  have C4 := Lib.hid (fun w => lowest_any (Shr.lowN n d) (Shr.lowD n d) hr.2.1 hr.2.2.2 w)
  rw [Shr.low_same] at C3
  rw [(Shr.low_low n d).1, (Shr.low_low n d).2] at C4
  generalize Shr.lowN n d = ln at *
  generalize Shr.lowD n d = ld at *
  clear hr hn hd
  go_enter Try.func8, Try.ntmps8
  go_wp2_with fail
  refine (awake_any _).mono ?_
  rintro e w1 ⟨rfl, hb1⟩
  have x := (Bk.new w 23 #[.int .i64 n, .int .i64 d]).pass hb1
  have hB := below_pass ((Below.refl w.heap.size w).alloc (Nat.le_refl _) (.cells #[.int .i64 n, .int .i64 d] 23)) (by simp) hb1
  clear hb1
  have xc0 : w1.cell? ⟨w.heap.size, 0, none⟩ = some (.int .i64 n) := x.cell rfl
  have xc1 : w1.cell? ⟨w.heap.size, 1, none⟩ = some (.int .i64 d) := x.cell rfl
  go_wp2_with fail
  refine (C1.out _).mono ?_
  rintro e w2 ⟨rfl, hb2⟩
  have x := x.pass hb2
  have hB := below_pass hB hB.size hb2
  clear xc0 xc1 hb2
  have xc0 : w2.cell? ⟨w.heap.size, 0, none⟩ = some (.int .i64 n) := x.cell rfl
  have xc1 : w2.cell? ⟨w.heap.size, 1, none⟩ = some (.int .i64 d) := x.cell rfl
  have xk0 := keep_alloc (o := .cells #[.int .i64 ln, .int .i64 ld] 23) xc0
  have xk1 := keep_alloc (o := .cells #[.int .i64 ln, .int .i64 ld] 23) xc1
  have zk0 : (w2.alloc (.cells #[.int .i64 ln, .int .i64 ld] 23)).cell? ⟨w2.heap.size, 0, none⟩ = some (.int .i64 ln) := (Bk.new w2 _ _).cell rfl
  have zk1 : (w2.alloc (.cells #[.int .i64 ln, .int .i64 ld] 23)).cell? ⟨w2.heap.size, 1, none⟩ = some (.int .i64 ld) := (Bk.new w2 _ _).cell rfl
  have hB := hB.alloc hB.size (.cells #[.int .i64 ln, .int .i64 ld] 23)
  go_upto_region 5 with fail
  go_region_held3 (fun w' => w'.cell? ⟨w.heap.size, 0, none⟩ = some (.int .i64 n) ∧ w'.cell? ⟨w.heap.size, 1, none⟩ = some (.int .i64 d) ∧ w'.cell? ⟨w2.heap.size, 0, none⟩ = some (.int .i64 ln) ∧ w'.cell? ⟨w2.heap.size, 1, none⟩ = some (.int .i64 ld)) (first | (refine ⟨?_, ?_, ?_, ?_⟩ <;> assumption) | assumption | exact keepB4 (by assumption) (by assumption)) (first | (go_at_call 23; refine (C2.out _).mono ?_; rintro e w' ⟨rfl, hbx⟩) | (go_at_call 17; refine (C3.out _).mono ?_; rintro e w' ⟨rfl, hby⟩) | (go_at_call 22; refine (C4.out _).mono ?_; rintro e w' ⟨rfl, hbz⟩))
  have h1 := below_pass hB.drew hB.size hbx
  have h2 := below_pass h1 h1.size hby
  have h3 := below_pass h2 h2.size hbz
  go_wp2_with fail
  go_ret
  exact ⟨rfl, h3⟩

end Go.Proofs.Ytnjgkgnjbmfpfaa
