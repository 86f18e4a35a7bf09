/- The walk of ShareLadders. -/
import Derived.Test.YtnjgkgnjbmfpfaaWj
import Derived.Test.YtnjgkgnjbmfpfaaWk
import Derived.Test.YtnjgkgnjbmfpfaaWg
import Derived.Test.YtnjgkgnjbmfpfaaRowC
namespace Go.Proofs.Ytnjgkgnjbmfpfaa
open Go.RowKit Go.Shelf

theorem below1 (w : World) (o : Obj) : Below w.heap.size w (w.alloc o) := (Below.refl _ _).alloc (Nat.le_refl _) _
theorem OutRow.nums {w : World} {base k : Nat} {d : Nat → Int} {A : Option Addr} {cap : Nat} (h : OutRow w base k d A cap) : NumsAt w A k d := fun hk => by
  obtain ⟨g, hA, hc⟩ := h.cell hk
  exact ⟨g, 0, hA, fun j hj => by rw [Nat.zero_add]; exact hc j hj⟩
theorem NumsAt.pass {w w' : World} {A : Option Addr} {n : Nat} {d : Nat → Int} (h : NumsAt w A n d) (hb : Below w.heap.size w w') : NumsAt w' A n d := fun hn => by
  obtain ⟨g, o, hA, hc⟩ := h hn
  exact ⟨g, o, hA, fun j hj => keep_below (hc j hj) hb⟩

set_option maxRecDepth 100000 in
set_option maxHeartbeats 4000000 in
theorem ladders_tail (A : Option Addr) (n c : Nat) (u0 u1 u2 u3 : Int) (hn : n ≤ 40) (hu : u0 ≤ 9223372036854775807 ∧ u1 ≤ 9223372036854775807 ∧ u2 ≤ 9223372036854775807 ∧ u3 ≤ 9223372036854775807) (bl off : Nat) (v : Nat → Nat → Int) (hA : 0 < n → A = some ⟨bl, off, none⟩) (hv : ∀ i j, v i j ≤ 9223372036854775807) (W : World) (hrow : VecRow W bl off n v) :
    (Calls Try.prog 25 #[.slice A n c, .agg #[.int .i64 u0, .int .i64 u1, .int .i64 u2, .int .i64 u3]] W fun e w' => ∃ g d, e = .returned (.slice (some ⟨g, 0, none⟩) n n) ∧ Below W.heap.size W w' ∧ NumsAt w' (some ⟨g, 0, none⟩) n d ∧
      ∀ W2, VecRow W2 bl off n v → Calls Try.prog 26 #[.slice A n c, .agg #[.int .i64 u0, .int .i64 u1, .int .i64 u2, .int .i64 u3]] W2 fun e w3 => ∃ A2 cap, e = .returned (.slice A2 n cap) ∧ NumsAt w3 A2 n d ∧ Below W2.heap.size W2 w3) := by
  refine (ladder_any A bl off n c hA v u0 u1 u2 u3 (by omega) hv hu W hrow).mono ?_
  rintro e w' ⟨g, d, rfl, h1, h2, h3, h4⟩
  refine ⟨g, d, rfl, h4, fun _ => ⟨g, 0, rfl, fun j hj => by rw [Nat.zero_add]; exact h3 j hj⟩, fun W2 hr2 => ?_⟩
  refine (rladder_any A bl off n c hA v u0 u1 u2 u3 (by omega) hv hu d h1 h2 W2 hr2).mono ?_
  rintro e w3 ⟨A2, cap, rfl, h5, h6⟩
  exact ⟨A2, cap, rfl, h5.nums, h6⟩

theorem VecRow.pass {w w' : World} {bl off n : Nat} {v : Nat → Nat → Int} (h : VecRow w bl off n v) (hb : Below w.heap.size w w') : VecRow w' bl off n v := fun i hi j hj => keep_below (h i hi j hj) hb

set_option maxRecDepth 100000 in
set_option maxHeartbeats 4000000 in
theorem walk_ShareLadders (A : Option Addr) (n c : Nat) (u0 u1 u2 u3 : Int) {w : World} (hrow : VecsIn w A n c) (h0 : In64 u0) (h1 : In64 u1) (h2 : In64 u2) (h3 : In64 u3) :
    Calls Try.prog 9 #[.slice A n c, .agg #[.int .i64 u0, .int .i64 u1, .int .i64 u2, .int .i64 u3]] w fun e w' => e = .returned (.bool true) ∧ Below w.heap.size w w' := by
  obtain ⟨hnc, hc, hrow⟩ := hrow
  obtain ⟨bl, off, v, hA, hR, hv⟩ : ∃ bl off, ∃ v : Nat → Nat → Int, (0 < n → A = some ⟨bl, off, none⟩) ∧ VecRow w bl off n v ∧ ∀ i j, v i j ≤ 9223372036854775807 := by
    by_cases hp : 0 < n
    · obtain ⟨bl, off, h1, v, h2, h3⟩ := hrow hp
      exact ⟨bl, off, v, fun _ => h1, h2, h3⟩
    · exact ⟨0, 0, fun _ _ => 0, fun h => absurd h hp, fun i hi => by omega, fun _ _ => by show (0 : Int) ≤ _; omega⟩
  clear hrow
  have hu := Lib.hid (show u0 ≤ 9223372036854775807 ∧ u1 ≤ 9223372036854775807 ∧ u2 ≤ 9223372036854775807 ∧ u3 ≤ 9223372036854775807 from ⟨h0.2, h1.2, h2.2, h3.2⟩)
  clear h0 h1 h2 h3
  have HR := Lib.hid hR
  have HV := Lib.hid hv
  have HA := Lib.hid hA
  clear hR hv hA
  by_cases hbig : 40 < n
  · have hAe := HA.out (by omega)
    subst hAe
    have hR40 : VecRow w bl off 40 v := fun i hi j hj => HR.out i (by omega) j hj
    have HR := Lib.hid hR40
    clear hR40
    have T := Lib.hid (fun W h => ladders_tail (some ⟨bl, off, none⟩) 40 c u0 u1 u2 u3 (by omega) hu.out bl off v (fun _ => rfl) HV.out W h)
    have hb40 : (40 : Int) < (n : Int) := by omega
    have hc40 : (40 : Int) ≤ (c : Int) := by omega
    go_enter Try.func9, Try.ntmps9
    go_wp2_with fail
    refine (awake_any _).mono ?_
    rintro e w1 ⟨rfl, hb1⟩
    have K0 := (Bk.new w 28 #[.int .i64 u0, .int .i64 u1, .int .i64 u2, .int .i64 u3]).pass hb1
    have B1 := below_pass (below1 w (.cells #[.int .i64 u0, .int .i64 u1, .int .i64 u2, .int .i64 u3] 28)) (by simp) hb1
    have V1 := Lib.hid ((HR.out.pass (below1 w (.cells #[.int .i64 u0, .int .i64 u1, .int .i64 u2, .int .i64 u3] 28))).pass hb1)
    have k0 := K0.cell (i := 0) rfl
    have k1 := K0.cell (i := 1) rfl
    have k2 := K0.cell (i := 2) rfl
    have k3 := K0.cell (i := 3) rfl
    go_upto_region 6 with fail
    go_region_with (first
      | (go_at_call 25; refine (T.out w1.drew (show VecRow w1.drew bl off _ v from V1.out)).mono ?_; rintro e w2 ⟨g, d, rfl, hb2, N2, T2⟩; have j0 := (K0.drew.pass hb2).cell (i := 0) rfl; have j1 := (K0.drew.pass hb2).cell (i := 1) rfl; have j2 := (K0.drew.pass hb2).cell (i := 2) rfl; have j3 := (K0.drew.pass hb2).cell (i := 3) rfl; have V2 := VecRow.pass (w := w1.drew) V1.out hb2)
      | (go_at_call 26; refine (T2 _ V2).mono ?_; rintro e w3 ⟨A2, cap, rfl, N3, hb3⟩)
      | (go_at_call 24; refine (same_any _ _ _ _ _ d (by omega) _ (N2.pass hb3) N3).mono ?_; rintro e w4 ⟨rfl, hb4⟩))
    all_goals
      go_wp2_with fail
      go_ret
      exact ⟨rfl, below_pass (below_pass (below_pass B1.drew B1.size hb2) (Nat.le_trans B1.size hb2.size) hb3) (Nat.le_trans (Nat.le_trans B1.size hb2.size) hb3.size) hb4⟩
  · have T := Lib.hid (fun W h => ladders_tail A n c u0 u1 u2 u3 (by omega) hu.out bl off v HA.out HV.out W h)
    go_enter Try.func9, Try.ntmps9
    go_wp2_with fail
    refine (awake_any _).mono ?_
    rintro e w1 ⟨rfl, hb1⟩
    have K0 := (Bk.new w 28 #[.int .i64 u0, .int .i64 u1, .int .i64 u2, .int .i64 u3]).pass hb1
    have B1 := below_pass (below1 w (.cells #[.int .i64 u0, .int .i64 u1, .int .i64 u2, .int .i64 u3] 28)) (by simp) hb1
    have V1 := Lib.hid ((HR.out.pass (below1 w (.cells #[.int .i64 u0, .int .i64 u1, .int .i64 u2, .int .i64 u3] 28))).pass hb1)
    have k0 := K0.cell (i := 0) rfl
    have k1 := K0.cell (i := 1) rfl
    have k2 := K0.cell (i := 2) rfl
    have k3 := K0.cell (i := 3) rfl
    go_upto_region 6 with fail
    go_region_with (first
      | (go_at_call 25; refine (T.out w1.drew (show VecRow w1.drew bl off _ v from V1.out)).mono ?_; rintro e w2 ⟨g, d, rfl, hb2, N2, T2⟩; have j0 := (K0.drew.pass hb2).cell (i := 0) rfl; have j1 := (K0.drew.pass hb2).cell (i := 1) rfl; have j2 := (K0.drew.pass hb2).cell (i := 2) rfl; have j3 := (K0.drew.pass hb2).cell (i := 3) rfl; have V2 := VecRow.pass (w := w1.drew) V1.out hb2)
      | (go_at_call 26; refine (T2 _ V2).mono ?_; rintro e w3 ⟨A2, cap, rfl, N3, hb3⟩)
      | (go_at_call 24; refine (same_any _ _ _ _ _ d (by omega) _ (N2.pass hb3) N3).mono ?_; rintro e w4 ⟨rfl, hb4⟩))
    all_goals
      go_wp2_with fail
      go_ret
      exact ⟨rfl, below_pass (below_pass (below_pass B1.drew B1.size hb2) (Nat.le_trans B1.size hb2.size) hb3) (Nat.le_trans (Nat.le_trans B1.size hb2.size) hb3.size) hb4⟩
end Go.Proofs.Ytnjgkgnjbmfpfaa
