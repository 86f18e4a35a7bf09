/- Walk of OrderPlus. -/
import Derived.Test.YtnjgkgnjbmfpfaaAwo
namespace Go.Proofs.Ytnjgkgnjbmfpfaa
open Go.RowKit Go.Maps Go.Sort Ot

/-- two numbers together -/
def cl (p q : Int) : Int := clip (clip p + clip q)
theorem cl_turn (p q : Int) : cl q p = cl p q := by unfold cl; rw [Int.add_comm]
theorem cl_assoc (p q r : Int) : cl p (cl q r) = cl (cl p q) r := by unfold cl clip most; omega
theorem cl_zero (p q : Int) : cl (cl p q) 0 = cl p q := by unfold cl clip most; omega
theorem plus_cl (p0 p1 p2 p3 q0 q1 q2 q3 : Int) (W : World) : Calls Try.prog 28 #[.agg #[.int .i64 p0, .int .i64 p1, .int .i64 p2, .int .i64 p3], .agg #[.int .i64 q0, .int .i64 q1, .int .i64 q2, .int .i64 q3]] W fun e w' => e = .returned (.agg #[.int .i64 (cl p0 q0), .int .i64 (cl p1 q1), .int .i64 (cl p2 q2), .int .i64 (cl p3 q3)]) ∧ Below W.heap.size W w' := plus_any (v4 p0 p1 p2 p3) (v4 q0 q1 q2 q3) W
theorem rplus_cl (p0 p1 p2 p3 q0 q1 q2 q3 : Int) (W : World) : Calls Try.prog 29 #[.agg #[.int .i64 p0, .int .i64 p1, .int .i64 p2, .int .i64 p3], .agg #[.int .i64 q0, .int .i64 q1, .int .i64 q2, .int .i64 q3]] W fun e w' => e = .returned (.agg #[.int .i64 (cl p0 q0), .int .i64 (cl p1 q1), .int .i64 (cl p2 q2), .int .i64 (cl p3 q3)]) ∧ Below W.heap.size W w' := rplus_any (v4 p0 p1 p2 p3) (v4 q0 q1 q2 q3) W
/-- all that lay below B reads as in W -/
theorem keepW {w0 W w w' : World} {B : Nat} (h : Below w0.heap.size w0 w ∧ B ≤ w.heap.size ∧ ∀ b o, b < B → w.cell? ⟨b, o, none⟩ = W.cell? ⟨b, o, none⟩) (hb : Below w.heap.size w w') : Below w0.heap.size w0 w' ∧ B ≤ w'.heap.size ∧ ∀ b o, b < B → w'.cell? ⟨b, o, none⟩ = W.cell? ⟨b, o, none⟩ :=
  ⟨below_pass h.1 h.1.size hb, Nat.le_trans h.2.1 hb.size, fun b o hlt => (World.cell?_of_block (hb.block b (Nat.lt_of_lt_of_le hlt h.2.1))).trans (h.2.2 b o hlt)⟩

set_option maxRecDepth 100000 in
set_option maxHeartbeats 8000000 in
theorem walk_OrderPlus (a0 a1 a2 a3 b0 b1 b2 b3 c0 c1 c2 c3 : Int) (w : World) :
    Calls Try.prog 10 #[.agg #[.int .i64 a0, .int .i64 a1, .int .i64 a2, .int .i64 a3], .agg #[.int .i64 b0, .int .i64 b1, .int .i64 b2, .int .i64 b3], .agg #[.int .i64 c0, .int .i64 c1, .int .i64 c2, .int .i64 c3]] w fun e w' => e = .returned (.bool true) ∧ Below w.heap.size w w' := by
  go_enter Try.func10, Try.ntmps10
  go_wp2_with fail
  refine (awake_any _).mono ?_
  rintro e w1 ⟨rfl, B1⟩
  have Ka : Bk w1 (w.heap.size) 28 #[.int .i64 a0, .int .i64 a1, .int .i64 a2, .int .i64 a3] := Bk.pass (((Bk.new w _ _).alloc _).alloc _) B1
  have Kb : Bk w1 (w.heap.size + 1) 28 #[.int .i64 b0, .int .i64 b1, .int .i64 b2, .int .i64 b3] := Bk.pass ((Bk.newAt (by simp)).alloc _) B1
  have Kc : Bk w1 (w.heap.size + 1 + 1) 28 #[.int .i64 c0, .int .i64 c1, .int .i64 c2, .int .i64 c3] := Bk.pass (Bk.newAt (by simp)) B1
  have HB1 := Lib.hid ((((Below.refl w.heap.size w).alloc (Nat.le_refl _) _).alloc (by simp) _).alloc (by simp; omega) _ |>.trans (B1.mono (by simp; omega)))
  clear B1
  have ac0 := Ka.cell (i := 0) rfl
  have ac1 := Ka.cell (i := 1) rfl
  have ac2 := Ka.cell (i := 2) rfl
  have ac3 := Ka.cell (i := 3) rfl
  have bc0 := Kb.cell (i := 0) rfl
  have bc1 := Kb.cell (i := 1) rfl
  have bc2 := Kb.cell (i := 2) rfl
  have bc3 := Kb.cell (i := 3) rfl
  have cc0 := Kc.cell (i := 0) rfl
  have cc1 := Kc.cell (i := 1) rfl
  have cc2 := Kc.cell (i := 2) rfl
  have cc3 := Kc.cell (i := 3) rfl
  obtain ⟨x0, hx0⟩ : ∃ v, cl a0 b0 = v := ⟨_, rfl⟩
  obtain ⟨x1, hx1⟩ : ∃ v, cl a1 b1 = v := ⟨_, rfl⟩
  obtain ⟨x2, hx2⟩ : ∃ v, cl a2 b2 = v := ⟨_, rfl⟩
  obtain ⟨x3, hx3⟩ : ∃ v, cl a3 b3 = v := ⟨_, rfl⟩
  have C0 := Lib.hid (plus_cl a0 a1 a2 a3 b0 b1 b2 b3)
  rw [hx0, hx1, hx2, hx3] at C0
  go_upto_region 4 with fail
  go_cut [8] (fun s8 wx => ∃ gx, s8 = .pointer (some ⟨gx, 0, none⟩) ∧ Hid (Bk wx gx 28 #[.int .i64 x0, .int .i64 x1, .int .i64 x2, .int .i64 x3] ∧ Bk wx w.heap.size 28 #[.int .i64 a0, .int .i64 a1, .int .i64 a2, .int .i64 a3] ∧ Bk wx (w.heap.size + 1) 28 #[.int .i64 b0, .int .i64 b1, .int .i64 b2, .int .i64 b3] ∧ Bk wx (w.heap.size + 1 + 1) 28 #[.int .i64 c0, .int .i64 c1, .int .i64 c2, .int .i64 c3] ∧ Below w.heap.size w wx))
  case first =>
    go_wp2_with fail
    refine (C0.out _).mono ?_
    rintro e w2 ⟨rfl, B2⟩
    have HH := Lib.hid (show _ ∧ _ ∧ _ ∧ _ from ⟨Ka.pass B2, Kb.pass B2, Kc.pass B2, below_pass HB1.out HB1.out.size B2⟩)
    clear B2 Ka Kb Kc
    go_wp2_with fail
    go_meet
    exact ⟨_, rfl, Lib.hid ⟨Bk.new w2 _ _, HH.out.1.alloc _, HH.out.2.1.alloc _, HH.out.2.2.1.alloc _, HH.out.2.2.2.alloc HH.out.2.2.2.size _⟩⟩
  case rest =>
    obtain ⟨gx, rfl, HX⟩ := hcut
    clear ac0 ac1 ac2 ac3 bc0 bc1 bc2 bc3 cc0 cc1 cc2 cc3 Ka Kb Kc C0
    have t0 : cl b0 a0 = x0 := by rw [cl_turn]; exact hx0
    have z0 : cl x0 0 = x0 := by rw [← hx0]; exact cl_zero _ _
    have s0 : cl a0 (cl b0 c0) = cl x0 c0 := by rw [← hx0]; exact cl_assoc _ _ _
    have t1 : cl b1 a1 = x1 := by rw [cl_turn]; exact hx1
    have z1 : cl x1 0 = x1 := by rw [← hx1]; exact cl_zero _ _
    have s1 : cl a1 (cl b1 c1) = cl x1 c1 := by rw [← hx1]; exact cl_assoc _ _ _
    have t2 : cl b2 a2 = x2 := by rw [cl_turn]; exact hx2
    have z2 : cl x2 0 = x2 := by rw [← hx2]; exact cl_zero _ _
    have s2 : cl a2 (cl b2 c2) = cl x2 c2 := by rw [← hx2]; exact cl_assoc _ _ _
    have t3 : cl b3 a3 = x3 := by rw [cl_turn]; exact hx3
    have z3 : cl x3 0 = x3 := by rw [← hx3]; exact cl_zero _ _
    have s3 : cl a3 (cl b3 c3) = cl x3 c3 := by rw [← hx3]; exact cl_assoc _ _ _
    have fa0 : wc.cell? ⟨w.heap.size, 0, none⟩ = some (.int .i64 a0) := (HX.out.2.1).cell rfl
    have fa1 : wc.cell? ⟨w.heap.size, 1, none⟩ = some (.int .i64 a1) := (HX.out.2.1).cell rfl
    have fa2 : wc.cell? ⟨w.heap.size, 2, none⟩ = some (.int .i64 a2) := (HX.out.2.1).cell rfl
    have fa3 : wc.cell? ⟨w.heap.size, 3, none⟩ = some (.int .i64 a3) := (HX.out.2.1).cell rfl
    have fb0 : wc.cell? ⟨w.heap.size + 1, 0, none⟩ = some (.int .i64 b0) := (HX.out.2.2.1).cell rfl
    have fb1 : wc.cell? ⟨w.heap.size + 1, 1, none⟩ = some (.int .i64 b1) := (HX.out.2.2.1).cell rfl
    have fb2 : wc.cell? ⟨w.heap.size + 1, 2, none⟩ = some (.int .i64 b2) := (HX.out.2.2.1).cell rfl
    have fb3 : wc.cell? ⟨w.heap.size + 1, 3, none⟩ = some (.int .i64 b3) := (HX.out.2.2.1).cell rfl
    have fc0 : wc.cell? ⟨w.heap.size + 1 + 1, 0, none⟩ = some (.int .i64 c0) := (HX.out.2.2.2.1).cell rfl
    have fc1 : wc.cell? ⟨w.heap.size + 1 + 1, 1, none⟩ = some (.int .i64 c1) := (HX.out.2.2.2.1).cell rfl
    have fc2 : wc.cell? ⟨w.heap.size + 1 + 1, 2, none⟩ = some (.int .i64 c2) := (HX.out.2.2.2.1).cell rfl
    have fc3 : wc.cell? ⟨w.heap.size + 1 + 1, 3, none⟩ = some (.int .i64 c3) := (HX.out.2.2.2.1).cell rfl
    have fx0 : wc.cell? ⟨gx, 0, none⟩ = some (.int .i64 x0) := (HX.out.1).cell rfl
    have fx1 : wc.cell? ⟨gx, 1, none⟩ = some (.int .i64 x1) := (HX.out.1).cell rfl
    have fx2 : wc.cell? ⟨gx, 2, none⟩ = some (.int .i64 x2) := (HX.out.1).cell rfl
    have fx3 : wc.cell? ⟨gx, 3, none⟩ = some (.int .i64 x3) := (HX.out.1).cell rfl
    obtain ⟨B, hB⟩ : ∃ B, Hid (wc.heap.size = B) := ⟨_, Lib.hid rfl⟩
    have la : w.heap.size < B := by rw [← hB.out]; exact (HX.out.2.1).lt
    have lb : w.heap.size + 1 < B := by rw [← hB.out]; exact (HX.out.2.2.1).lt
    have lc : w.heap.size + 1 + 1 < B := by rw [← hB.out]; exact (HX.out.2.2.2.1).lt
    have lx : gx < B := by rw [← hB.out]; exact (HX.out.1).lt
    have eq := vec_eq
    have hst : Below w.heap.size w wc.drew ∧ B ≤ wc.drew.heap.size ∧ ∀ b o, b < B → wc.drew.cell? ⟨b, o, none⟩ = wc.cell? ⟨b, o, none⟩ := ⟨HX.out.2.2.2.2.drew, by rw [← hB.out]; exact Nat.le_refl _, fun _ _ _ => rfl⟩
    go_upto_region 5 with fail
    go_region_held3 (fun w' => Below w.heap.size w w' ∧ B ≤ w'.heap.size ∧ ∀ b o, b < B → w'.cell? ⟨b, o, none⟩ = wc.cell? ⟨b, o, none⟩) (first | exact hst | assumption | exact keepW (by assumption) (by assumption)) (first | (go_at_call 29; refine (rplus_cl _ _ _ _ _ _ _ _ _).mono ?_; rintro e w' ⟨rfl, hb⟩) | (go_at_call 28; refine (plus_cl _ _ _ _ _ _ _ _ _).mono ?_; rintro e w' ⟨rfl, hb⟩))
    all_goals
      go_wp2_with fail
      go_ret
      exact ⟨rfl, And.left (by assumption)⟩
end Go.Proofs.Ytnjgkgnjbmfpfaa
