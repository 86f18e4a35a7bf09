/- The walk of the law ShareGrows. -/
import Derived.Test.YtnjgkgnjbmfpfaaWg
import Derived.Test.YtnjgkgnjbmfpfaaGrowM
import Derived.Test.YtnjgkgnjbmfpfaaRow
namespace Go.Proofs.Ytnjgkgnjbmfpfaa
open Go.RowKit Go.Shelf

theorem fill_zero (f : Nat → Int) : #[.int .i64 (Shr.fill f 0 0), .int .i64 (Shr.fill f 0 1), .int .i64 (Shr.fill f 0 2), .int .i64 (Shr.fill f 0 3)] = (#[.int .i64 0, .int .i64 0, .int .i64 0, .int .i64 0] : Array Value) := rfl
theorem fill_four (a b c d : Int) : #[.int .i64 (Shr.fill (Shr.four a b c d) 4 0), .int .i64 (Shr.fill (Shr.four a b c d) 4 1), .int .i64 (Shr.fill (Shr.four a b c d) 4 2), .int .i64 (Shr.fill (Shr.four a b c d) 4 3)] = (#[.int .i64 a, .int .i64 b, .int .i64 c, .int .i64 d] : Array Value) := rfl
theorem fill_set (f : Nat → Int) {k : Nat} (hk : k < 4) : (#[.int .i64 (Shr.fill f k 0), .int .i64 (Shr.fill f k 1), .int .i64 (Shr.fill f k 2), .int .i64 (Shr.fill f k 3)] : Array Value).setIfInBounds k (.int .i64 (f k)) = #[.int .i64 (Shr.fill f (k + 1) 0), .int .i64 (Shr.fill f (k + 1) 1), .int .i64 (Shr.fill f (k + 1) 2), .int .i64 (Shr.fill f (k + 1) 3)] := by
  have h5 : k = 0 ∨ k = 1 ∨ k = 2 ∨ k = 3 := by omega
  rcases h5 with rfl | rfl | rfl | rfl <;> rfl
theorem fill_cell (f : Nat → Int) {k : Nat} (hk : k < 4) : (#[.int .i64 (Shr.fill f k 0), .int .i64 (Shr.fill f k 1), .int .i64 (Shr.fill f k 2), .int .i64 (Shr.fill f k 3)] : Array Value)[k]? = some (.int .i64 0) := by
  have h5 : k = 0 ∨ k = 1 ∨ k = 2 ∨ k = 3 := by omega
  rcases h5 with rfl | rfl | rfl | rfl <;> rfl
theorem mx_four {k : Nat} (hk : k < 4) (h0 h1 h2 h3 m0 m1 m2 m3 : Int) : Shr.four (Shr.mx h0 m0) (Shr.mx h1 m1) (Shr.mx h2 m2) (Shr.mx h3 m3) k = Shr.mx ((Shr.four h0 h1 h2 h3) k) ((Shr.four m0 m1 m2 m3) k) := by
  have h5 : k = 0 ∨ k = 1 ∨ k = 2 ∨ k = 3 := by omega
  rcases h5 with rfl | rfl | rfl | rfl <;> rfl
theorem mn_four {k : Nat} (hk : k < 4) (u0 u1 u2 u3 m0 m1 m2 m3 : Int) : Shr.four (Shr.mn u0 m0) (Shr.mn u1 m1) (Shr.mn u2 m2) (Shr.mn u3 m3) k = Shr.mn ((Shr.four u0 u1 u2 u3) k) ((Shr.four m0 m1 m2 m3) k) := by
  have h5 : k = 0 ∨ k = 1 ∨ k = 2 ∨ k = 3 := by omega
  rcases h5 with rfl | rfl | rfl | rfl <;> rfl

set_option maxRecDepth 100000 in
set_option maxHeartbeats 2000000 in
theorem walk_ShareGrows (h0 h1 h2 h3 m0 m1 m2 m3 u0 u1 u2 u3 : Int) (lh0 : In64 h0) (lh1 : In64 h1) (lh2 : In64 h2) (lh3 : In64 h3) (lm0 : In64 m0) (lm1 : In64 m1) (lm2 : In64 m2) (lm3 : In64 m3) (lu0 : In64 u0) (lu1 : In64 u1) (lu2 : In64 u2) (lu3 : In64 u3) (w : World) :
    Calls Try.prog 7 #[.agg #[.int .i64 h0, .int .i64 h1, .int .i64 h2, .int .i64 h3], .agg #[.int .i64 m0, .int .i64 m1, .int .i64 m2, .int .i64 m3], .agg #[.int .i64 u0, .int .i64 u1, .int .i64 u2, .int .i64 u3]] w fun e w' => e = .returned (.bool true) ∧ Below w.heap.size w w' := by
  have g0 : Shr.mx h0 m0 ≤ 9223372036854775807 := by have := lh0.2; have := lm0.2; unfold Shr.mx; omega
  have s0 : Shr.mn u0 m0 ≤ 9223372036854775807 := by have := lu0.2; have := lm0.2; unfold Shr.mn; omega
  have g1 : Shr.mx h1 m1 ≤ 9223372036854775807 := by have := lh1.2; have := lm1.2; unfold Shr.mx; omega
  have s1 : Shr.mn u1 m1 ≤ 9223372036854775807 := by have := lu1.2; have := lm1.2; unfold Shr.mn; omega
  have g2 : Shr.mx h2 m2 ≤ 9223372036854775807 := by have := lh2.2; have := lm2.2; unfold Shr.mx; omega
  have s2 : Shr.mn u2 m2 ≤ 9223372036854775807 := by have := lu2.2; have := lm2.2; unfold Shr.mn; omega
  have g3 : Shr.mx h3 m3 ≤ 9223372036854775807 := by have := lh3.2; have := lm3.2; unfold Shr.mx; omega
  have s3 : Shr.mn u3 m3 ≤ 9223372036854775807 := by have := lu3.2; have := lm3.2; unfold Shr.mn; omega
  have C1 := Lib.hid (fun w => dominant_any h0 h1 h2 h3 u0 u1 u2 u3 lh0.2 lh1.2 lh2.2 lh3.2 lu0.2 lu1.2 lu2.2 lu3.2 w)
  have C2 := Lib.hid (fun w => dominant_any (Shr.mx h0 m0) (Shr.mx h1 m1) (Shr.mx h2 m2) (Shr.mx h3 m3) u0 u1 u2 u3 g0 g1 g2 g3 lu0.2 lu1.2 lu2.2 lu3.2 w)
  have C3 := Lib.hid (fun w => dominant_any h0 h1 h2 h3 (Shr.mn u0 m0) (Shr.mn u1 m1) (Shr.mn u2 m2) (Shr.mn u3 m3) lh0.2 lh1.2 lh2.2 lh3.2 s0 s1 s2 s3 w)
  have k1 := Shr.grows h0 h1 h2 h3 m0 m1 m2 m3 u0 u1 u2 u3
  have k2 := Shr.shrinks h0 h1 h2 h3 m0 m1 m2 m3 u0 u1 u2 u3
  have r1 := Shr.domN_range (Shr.four h0 h1 h2 h3) (Shr.four u0 u1 u2 u3) (by intro k; unfold Shr.four; split <;> first | exact lh0.2 | exact lh1.2 | exact lh2.2 | exact lh3.2) (by intro k; unfold Shr.four; split <;> first | exact lu0.2 | exact lu1.2 | exact lu2.2 | exact lu3.2) 4
  have r2 := Shr.domN_range (Shr.four (Shr.mx h0 m0) (Shr.mx h1 m1) (Shr.mx h2 m2) (Shr.mx h3 m3)) (Shr.four u0 u1 u2 u3) (by intro k; unfold Shr.four; split <;> first | exact g0 | exact g1 | exact g2 | exact g3) (by intro k; unfold Shr.four; split <;> first | exact lu0.2 | exact lu1.2 | exact lu2.2 | exact lu3.2) 4
  have r3 := Shr.domN_range (Shr.four h0 h1 h2 h3) (Shr.four (Shr.mn u0 m0) (Shr.mn u1 m1) (Shr.mn u2 m2) (Shr.mn u3 m3)) (by intro k; unfold Shr.four; split <;> first | exact lh0.2 | exact lh1.2 | exact lh2.2 | exact lh3.2) (by intro k; unfold Shr.four; split <;> first | exact s0 | exact s1 | exact s2 | exact s3) 4
  change _ ∧ _ ∧ _ ∧ _ ∧ _ ∧ _ at r1
  rw [show Shr.domN (Shr.four h0 h1 h2 h3) (Shr.four u0 u1 u2 u3) 4 = Shr.dom (Shr.four h0 h1 h2 h3) (Shr.four u0 u1 u2 u3) from rfl] at r1
  rw [show Shr.domN (Shr.four (Shr.mx h0 m0) (Shr.mx h1 m1) (Shr.mx h2 m2) (Shr.mx h3 m3)) (Shr.four u0 u1 u2 u3) 4 = Shr.dom (Shr.four (Shr.mx h0 m0) (Shr.mx h1 m1) (Shr.mx h2 m2) (Shr.mx h3 m3)) (Shr.four u0 u1 u2 u3) from rfl] at r2
  rw [show Shr.domN (Shr.four h0 h1 h2 h3) (Shr.four (Shr.mn u0 m0) (Shr.mn u1 m1) (Shr.mn u2 m2) (Shr.mn u3 m3)) 4 = Shr.dom (Shr.four h0 h1 h2 h3) (Shr.four (Shr.mn u0 m0) (Shr.mn u1 m1) (Shr.mn u2 m2) (Shr.mn u3 m3)) from rfl] at r3
  generalize Shr.dom (Shr.four h0 h1 h2 h3) (Shr.four u0 u1 u2 u3) = S at *
  generalize Shr.dom (Shr.four (Shr.mx h0 m0) (Shr.mx h1 m1) (Shr.mx h2 m2) (Shr.mx h3 m3)) (Shr.four u0 u1 u2 u3) = T at *
  generalize Shr.dom (Shr.four h0 h1 h2 h3) (Shr.four (Shr.mn u0 m0) (Shr.mn u1 m1) (Shr.mn u2 m2) (Shr.mn u3 m3)) = V at *
  obtain ⟨Sn, Sd, Sa⟩ := S
  obtain ⟨Tn, Td, Ta⟩ := T
  obtain ⟨Vn, Vd, Va⟩ := V
  simp only at C1 C2 C3 k1 k2 r1 r2 r3
  have C4 := Lib.hid (fun w => compare_any Tn Td Sn Sd r2.2.1 r2.2.2.2.1 r1.2.1 r1.2.2.2.1 w)
  have C5 := Lib.hid (fun w => compare_any Vn Vd Sn Sd r3.2.1 r3.2.2.2.1 r1.2.1 r1.2.2.2.1 w)
  generalize Shr.cmp Tn Td Sn Sd = c1 at *
  generalize Shr.cmp Vn Vd Sn Sd = c2 at *
  clear r1 r2 r3 g0 s0 g1 s1 g2 s2 g3 s3 lh0 lh1 lh2 lh3 lm0 lm1 lm2 lm3 lu0 lu1 lu2 lu3
  go_enter Try.func7, Try.ntmps7
  go_wp2_with fail
  refine (awake_any _).mono ?_
  rintro e w1 ⟨rfl, hb1⟩
  have x := (((Bk.new w 28 #[.int .i64 h0, .int .i64 h1, .int .i64 h2, .int .i64 h3]).alloc (.cells #[.int .i64 m0, .int .i64 m1, .int .i64 m2, .int .i64 m3] 28)).alloc (.cells #[.int .i64 u0, .int .i64 u1, .int .i64 u2, .int .i64 u3] 28)).pass hb1
  have y := ((Bk.newAt (t := 28) (cs := #[.int .i64 m0, .int .i64 m1, .int .i64 m2, .int .i64 m3]) (g := w.heap.size + 1) (W := w.alloc (.cells #[.int .i64 h0, .int .i64 h1, .int .i64 h2, .int .i64 h3] 28)) (by simp)).alloc (.cells #[.int .i64 u0, .int .i64 u1, .int .i64 u2, .int .i64 u3] 28)).pass hb1
  have z := (Bk.newAt (t := 28) (cs := #[.int .i64 u0, .int .i64 u1, .int .i64 u2, .int .i64 u3]) (g := w.heap.size + 2) (W := (w.alloc (.cells #[.int .i64 h0, .int .i64 h1, .int .i64 h2, .int .i64 h3] 28)).alloc (.cells #[.int .i64 m0, .int .i64 m1, .int .i64 m2, .int .i64 m3] 28)) (by simp)).pass hb1
  have hB := below_pass ((((Below.refl w.heap.size w).alloc (Nat.le_refl _) (.cells #[.int .i64 h0, .int .i64 h1, .int .i64 h2, .int .i64 h3] 28)).alloc (by simp) (.cells #[.int .i64 m0, .int .i64 m1, .int .i64 m2, .int .i64 m3] 28)).alloc (by simp; omega) (.cells #[.int .i64 u0, .int .i64 u1, .int .i64 u2, .int .i64 u3] 28)) (by simp; omega) hb1
  clear hb1
  go_wp2_with fail
  have hgt := z.lt
  have hle1 := hB.size
  obtain ⟨N1, hN1⟩ : ∃ N, N = w1.heap.size := ⟨_, rfl⟩
  go_loopg [10] 4 (fun g s10 wr => ∃ k : Nat, k ≤ 4 ∧ g = 4 - k ∧ s10 = .int .i64 k ∧ Bk wr w.heap.size 28 #[.int .i64 h0, .int .i64 h1, .int .i64 h2, .int .i64 h3] ∧ Bk wr (w.heap.size + 1) 28 #[.int .i64 m0, .int .i64 m1, .int .i64 m2, .int .i64 m3] ∧ Bk wr (w.heap.size + 2) 28 #[.int .i64 u0, .int .i64 u1, .int .i64 u2, .int .i64 u3] ∧
    Bk wr w1.heap.size 28 #[.int .i64 (Shr.fill (Shr.four (Shr.mx h0 m0) (Shr.mx h1 m1) (Shr.mx h2 m2) (Shr.mx h3 m3)) k 0), .int .i64 (Shr.fill (Shr.four (Shr.mx h0 m0) (Shr.mx h1 m1) (Shr.mx h2 m2) (Shr.mx h3 m3)) k 1), .int .i64 (Shr.fill (Shr.four (Shr.mx h0 m0) (Shr.mx h1 m1) (Shr.mx h2 m2) (Shr.mx h3 m3)) k 2), .int .i64 (Shr.fill (Shr.four (Shr.mx h0 m0) (Shr.mx h1 m1) (Shr.mx h2 m2) (Shr.mx h3 m3)) k 3)] ∧ Bk wr (w1.heap.size + 1) 28 #[.int .i64 (Shr.fill (Shr.four (Shr.mn u0 m0) (Shr.mn u1 m1) (Shr.mn u2 m2) (Shr.mn u3 m3)) k 0), .int .i64 (Shr.fill (Shr.four (Shr.mn u0 m0) (Shr.mn u1 m1) (Shr.mn u2 m2) (Shr.mn u3 m3)) k 1), .int .i64 (Shr.fill (Shr.four (Shr.mn u0 m0) (Shr.mn u1 m1) (Shr.mn u2 m2) (Shr.mn u3 m3)) k 2), .int .i64 (Shr.fill (Shr.four (Shr.mn u0 m0) (Shr.mn u1 m1) (Shr.mn u2 m2) (Shr.mn u3 m3)) k 3)] ∧ Below w.heap.size w wr)
  case atStart => exact ⟨0, by omega, by omega, rfl, (x.alloc _).alloc _, (y.alloc _).alloc _, (z.alloc _).alloc _, (Bk.new w1 _ _).alloc _, Bk.newAt (by simp), (hB.alloc hle1 _).alloc (by simp; omega) _⟩
  case round =>
    obtain ⟨k, hk, hg, rfl, x, y, z, G, L, hB⟩ := hrel
    by_cases h4 : k < 4
    · have hx : wr.cell? ⟨w.heap.size, k, none⟩ = some (.int .i64 ((Shr.four h0 h1 h2 h3) k)) := x.cell (four_cell h4)
      have hy : wr.cell? ⟨w.heap.size + 1, k, none⟩ = some (.int .i64 ((Shr.four m0 m1 m2 m3) k)) := y.cell (four_cell h4)
      have hz : wr.cell? ⟨w.heap.size + 2, k, none⟩ = some (.int .i64 ((Shr.four u0 u1 u2 u3) k)) := z.cell (four_cell h4)
      have gG : wr.cell? ⟨w1.heap.size, k, none⟩ = some (.int .i64 0) := G.cell (fill_cell _ h4)
      have gL : wr.cell? ⟨w1.heap.size + 1, k, none⟩ = some (.int .i64 0) := L.cell (fill_cell _ h4)
      have fG := G.free k
      have fL := L.free k
      have eG := Lib.hid (fill_set (Shr.four (Shr.mx h0 m0) (Shr.mx h1 m1) (Shr.mx h2 m2) (Shr.mx h3 m3)) h4)
      have eL := Lib.hid (fill_set (Shr.four (Shr.mn u0 m0) (Shr.mn u1 m1) (Shr.mn u2 m2) (Shr.mn u3 m3)) h4)
      rw [mx_four h4] at eG
      rw [mn_four h4] at eL
      generalize (Shr.four h0 h1 h2 h3) k = a at *
      generalize (Shr.four m0 m1 m2 m3) k = b at *
      generalize (Shr.four u0 u1 u2 u3) k = c at *
      have n1 : w.heap.size ≠ w1.heap.size := by omega
      have n2 : w.heap.size + 1 ≠ w1.heap.size := by omega
      have n3 : w.heap.size + 2 ≠ w1.heap.size := by omega
      have hz2 := fun v => keep_set (q := ⟨w1.heap.size, k, none⟩) (u := v) hz (by dsimp only; omega)
      have hy2 := fun v => keep_set (q := ⟨w1.heap.size, k, none⟩) (u := v) hy (by dsimp only; omega)
      have gL2 := fun v => keep_set (q := ⟨w1.heap.size, k, none⟩) (u := v) gL (by dsimp only; omega)
      by_cases q1 : a < b <;> by_cases q2 : b < c
      · have e1 := Lib.hid (Shr.mx_lt q1)
        have e2 := Lib.hid (Shr.mn_lt q2)
        rw [e1.out] at eG
        rw [e2.out] at eL
        clear e1 e2
        go_upto_region 9 with fail
        go_region
        go_upto_region 10 with fail
        go_region
        go_wp2_with fail
        go_roundg (4 - (k + 1))
        case measure => omega
        case rel => exact ⟨k + 1, by omega, rfl, by go_num, (x.far (by dsimp only; omega) _).far (by dsimp only; omega) _, (y.far (by dsimp only; omega) _).far (by dsimp only; omega) _, (z.far (by dsimp only; omega) _).far (by dsimp only; omega) _, by rw [← eG.out]; exact (G.set k _).far (by dsimp only; omega) _, by rw [← eL.out]; exact (L.far (by dsimp only; omega) _).set k _, ((hB.setCell (by dsimp only; omega) _).setCell (by dsimp only; omega) _).drew.drew⟩
      · have e1 := Lib.hid (Shr.mx_lt q1)
        have e2 := Lib.hid (Shr.mn_ge q2)
        rw [e1.out] at eG
        rw [e2.out] at eL
        clear e1 e2
        go_upto_region 9 with fail
        go_region
        go_upto_region 10 with fail
        go_region
        go_wp2_with fail
        go_roundg (4 - (k + 1))
        case measure => omega
        case rel => exact ⟨k + 1, by omega, rfl, by go_num, (x.far (by dsimp only; omega) _).far (by dsimp only; omega) _, (y.far (by dsimp only; omega) _).far (by dsimp only; omega) _, (z.far (by dsimp only; omega) _).far (by dsimp only; omega) _, by rw [← eG.out]; exact (G.set k _).far (by dsimp only; omega) _, by rw [← eL.out]; exact (L.far (by dsimp only; omega) _).set k _, ((hB.setCell (by dsimp only; omega) _).setCell (by dsimp only; omega) _).drew.drew⟩
      · have e1 := Lib.hid (Shr.mx_ge q1)
        have e2 := Lib.hid (Shr.mn_lt q2)
        rw [e1.out] at eG
        rw [e2.out] at eL
        clear e1 e2
        go_upto_region 9 with fail
        go_region
        go_upto_region 10 with fail
        go_region
        go_wp2_with fail
        go_roundg (4 - (k + 1))
        case measure => omega
        case rel => exact ⟨k + 1, by omega, rfl, by go_num, (x.far (by dsimp only; omega) _).far (by dsimp only; omega) _, (y.far (by dsimp only; omega) _).far (by dsimp only; omega) _, (z.far (by dsimp only; omega) _).far (by dsimp only; omega) _, by rw [← eG.out]; exact (G.set k _).far (by dsimp only; omega) _, by rw [← eL.out]; exact (L.far (by dsimp only; omega) _).set k _, ((hB.setCell (by dsimp only; omega) _).setCell (by dsimp only; omega) _).drew.drew⟩
      · have e1 := Lib.hid (Shr.mx_ge q1)
        have e2 := Lib.hid (Shr.mn_ge q2)
        rw [e1.out] at eG
        rw [e2.out] at eL
        clear e1 e2
        go_upto_region 9 with fail
        go_region
        go_upto_region 10 with fail
        go_region
        go_wp2_with fail
        go_roundg (4 - (k + 1))
        case measure => omega
        case rel => exact ⟨k + 1, by omega, rfl, by go_num, (x.far (by dsimp only; omega) _).far (by dsimp only; omega) _, (y.far (by dsimp only; omega) _).far (by dsimp only; omega) _, (z.far (by dsimp only; omega) _).far (by dsimp only; omega) _, by rw [← eG.out]; exact (G.set k _).far (by dsimp only; omega) _, by rw [← eL.out]; exact (L.far (by dsimp only; omega) _).set k _, ((hB.setCell (by dsimp only; omega) _).setCell (by dsimp only; omega) _).drew.drew⟩
    · obtain rfl : k = 4 := by omega
      rw [fill_four] at G L
      clear hk h4 hg
      have xc0 : wr.cell? ⟨w.heap.size, 0, none⟩ = some (.int .i64 h0) := x.cell rfl
      have xc1 : wr.cell? ⟨w.heap.size, 1, none⟩ = some (.int .i64 h1) := x.cell rfl
      have xc2 : wr.cell? ⟨w.heap.size, 2, none⟩ = some (.int .i64 h2) := x.cell rfl
      have xc3 : wr.cell? ⟨w.heap.size, 3, none⟩ = some (.int .i64 h3) := x.cell rfl
      have zc0 : wr.cell? ⟨(w.heap.size + 2), 0, none⟩ = some (.int .i64 u0) := z.cell rfl
      have zc1 : wr.cell? ⟨(w.heap.size + 2), 1, none⟩ = some (.int .i64 u1) := z.cell rfl
      have zc2 : wr.cell? ⟨(w.heap.size + 2), 2, none⟩ = some (.int .i64 u2) := z.cell rfl
      have zc3 : wr.cell? ⟨(w.heap.size + 2), 3, none⟩ = some (.int .i64 u3) := z.cell rfl
      have Gc0 : wr.cell? ⟨w1.heap.size, 0, none⟩ = some (.int .i64 (Shr.mx h0 m0)) := G.cell rfl
      have Gc1 : wr.cell? ⟨w1.heap.size, 1, none⟩ = some (.int .i64 (Shr.mx h1 m1)) := G.cell rfl
      have Gc2 : wr.cell? ⟨w1.heap.size, 2, none⟩ = some (.int .i64 (Shr.mx h2 m2)) := G.cell rfl
      have Gc3 : wr.cell? ⟨w1.heap.size, 3, none⟩ = some (.int .i64 (Shr.mx h3 m3)) := G.cell rfl
      have Lc0 : wr.cell? ⟨(w1.heap.size + 1), 0, none⟩ = some (.int .i64 (Shr.mn u0 m0)) := L.cell rfl
      have Lc1 : wr.cell? ⟨(w1.heap.size + 1), 1, none⟩ = some (.int .i64 (Shr.mn u1 m1)) := L.cell rfl
      have Lc2 : wr.cell? ⟨(w1.heap.size + 1), 2, none⟩ = some (.int .i64 (Shr.mn u2 m2)) := L.cell rfl
      have Lc3 : wr.cell? ⟨(w1.heap.size + 1), 3, none⟩ = some (.int .i64 (Shr.mn u3 m3)) := L.cell rfl
      go_wp2_with fail
      refine (C1.out _).mono ?_
      rintro e wa ⟨rfl, hbwa⟩
      have x := (x.pass hbwa).alloc (.cells #[.int .i64 Sn, .int .i64 Sd] 23)
      have z := (z.pass hbwa).alloc (.cells #[.int .i64 Sn, .int .i64 Sd] 23)
      have G := (G.pass hbwa).alloc (.cells #[.int .i64 Sn, .int .i64 Sd] 23)
      have L := (L.pass hbwa).alloc (.cells #[.int .i64 Sn, .int .i64 Sd] 23)
      have BS := Bk.new wa 23 #[.int .i64 Sn, .int .i64 Sd]
      have hB := below_pass hB hB.size hbwa
      have hB := hB.alloc hB.size (.cells #[.int .i64 Sn, .int .i64 Sd] 23)
      clear xc0 xc1 xc2 xc3 zc0 zc1 zc2 zc3 Gc0 Gc1 Gc2 Gc3 Lc0 Lc1 Lc2 Lc3 hbwa
      have xc0 : (wa.alloc (.cells #[.int .i64 Sn, .int .i64 Sd] 23)).cell? ⟨w.heap.size, 0, none⟩ = some (.int .i64 h0) := x.cell rfl
      have xc1 : (wa.alloc (.cells #[.int .i64 Sn, .int .i64 Sd] 23)).cell? ⟨w.heap.size, 1, none⟩ = some (.int .i64 h1) := x.cell rfl
      have xc2 : (wa.alloc (.cells #[.int .i64 Sn, .int .i64 Sd] 23)).cell? ⟨w.heap.size, 2, none⟩ = some (.int .i64 h2) := x.cell rfl
      have xc3 : (wa.alloc (.cells #[.int .i64 Sn, .int .i64 Sd] 23)).cell? ⟨w.heap.size, 3, none⟩ = some (.int .i64 h3) := x.cell rfl
      have zc0 : (wa.alloc (.cells #[.int .i64 Sn, .int .i64 Sd] 23)).cell? ⟨(w.heap.size + 2), 0, none⟩ = some (.int .i64 u0) := z.cell rfl
      have zc1 : (wa.alloc (.cells #[.int .i64 Sn, .int .i64 Sd] 23)).cell? ⟨(w.heap.size + 2), 1, none⟩ = some (.int .i64 u1) := z.cell rfl
      have zc2 : (wa.alloc (.cells #[.int .i64 Sn, .int .i64 Sd] 23)).cell? ⟨(w.heap.size + 2), 2, none⟩ = some (.int .i64 u2) := z.cell rfl
      have zc3 : (wa.alloc (.cells #[.int .i64 Sn, .int .i64 Sd] 23)).cell? ⟨(w.heap.size + 2), 3, none⟩ = some (.int .i64 u3) := z.cell rfl
      have Gc0 : (wa.alloc (.cells #[.int .i64 Sn, .int .i64 Sd] 23)).cell? ⟨w1.heap.size, 0, none⟩ = some (.int .i64 (Shr.mx h0 m0)) := G.cell rfl
      have Gc1 : (wa.alloc (.cells #[.int .i64 Sn, .int .i64 Sd] 23)).cell? ⟨w1.heap.size, 1, none⟩ = some (.int .i64 (Shr.mx h1 m1)) := G.cell rfl
      have Gc2 : (wa.alloc (.cells #[.int .i64 Sn, .int .i64 Sd] 23)).cell? ⟨w1.heap.size, 2, none⟩ = some (.int .i64 (Shr.mx h2 m2)) := G.cell rfl
      have Gc3 : (wa.alloc (.cells #[.int .i64 Sn, .int .i64 Sd] 23)).cell? ⟨w1.heap.size, 3, none⟩ = some (.int .i64 (Shr.mx h3 m3)) := G.cell rfl
      have Lc0 : (wa.alloc (.cells #[.int .i64 Sn, .int .i64 Sd] 23)).cell? ⟨(w1.heap.size + 1), 0, none⟩ = some (.int .i64 (Shr.mn u0 m0)) := L.cell rfl
      have Lc1 : (wa.alloc (.cells #[.int .i64 Sn, .int .i64 Sd] 23)).cell? ⟨(w1.heap.size + 1), 1, none⟩ = some (.int .i64 (Shr.mn u1 m1)) := L.cell rfl
      have Lc2 : (wa.alloc (.cells #[.int .i64 Sn, .int .i64 Sd] 23)).cell? ⟨(w1.heap.size + 1), 2, none⟩ = some (.int .i64 (Shr.mn u2 m2)) := L.cell rfl
      have Lc3 : (wa.alloc (.cells #[.int .i64 Sn, .int .i64 Sd] 23)).cell? ⟨(w1.heap.size + 1), 3, none⟩ = some (.int .i64 (Shr.mn u3 m3)) := L.cell rfl
      go_wp2_with fail
      refine (C2.out _).mono ?_
      rintro e wb ⟨rfl, hbwb⟩
      have x := (x.pass hbwb).alloc (.cells #[.int .i64 Tn, .int .i64 Td] 23)
      have z := (z.pass hbwb).alloc (.cells #[.int .i64 Tn, .int .i64 Td] 23)
      have G := (G.pass hbwb).alloc (.cells #[.int .i64 Tn, .int .i64 Td] 23)
      have L := (L.pass hbwb).alloc (.cells #[.int .i64 Tn, .int .i64 Td] 23)
      have BS := (BS.pass hbwb).alloc (.cells #[.int .i64 Tn, .int .i64 Td] 23)
      have BT := Bk.new wb 23 #[.int .i64 Tn, .int .i64 Td]
      have hB := below_pass hB hB.size hbwb
      have hB := hB.alloc hB.size (.cells #[.int .i64 Tn, .int .i64 Td] 23)
      clear xc0 xc1 xc2 xc3 zc0 zc1 zc2 zc3 Gc0 Gc1 Gc2 Gc3 Lc0 Lc1 Lc2 Lc3 hbwb
      have xc0 : (wb.alloc (.cells #[.int .i64 Tn, .int .i64 Td] 23)).cell? ⟨w.heap.size, 0, none⟩ = some (.int .i64 h0) := x.cell rfl
      have xc1 : (wb.alloc (.cells #[.int .i64 Tn, .int .i64 Td] 23)).cell? ⟨w.heap.size, 1, none⟩ = some (.int .i64 h1) := x.cell rfl
      have xc2 : (wb.alloc (.cells #[.int .i64 Tn, .int .i64 Td] 23)).cell? ⟨w.heap.size, 2, none⟩ = some (.int .i64 h2) := x.cell rfl
      have xc3 : (wb.alloc (.cells #[.int .i64 Tn, .int .i64 Td] 23)).cell? ⟨w.heap.size, 3, none⟩ = some (.int .i64 h3) := x.cell rfl
      have Lc0 : (wb.alloc (.cells #[.int .i64 Tn, .int .i64 Td] 23)).cell? ⟨(w1.heap.size + 1), 0, none⟩ = some (.int .i64 (Shr.mn u0 m0)) := L.cell rfl
      have Lc1 : (wb.alloc (.cells #[.int .i64 Tn, .int .i64 Td] 23)).cell? ⟨(w1.heap.size + 1), 1, none⟩ = some (.int .i64 (Shr.mn u1 m1)) := L.cell rfl
      have Lc2 : (wb.alloc (.cells #[.int .i64 Tn, .int .i64 Td] 23)).cell? ⟨(w1.heap.size + 1), 2, none⟩ = some (.int .i64 (Shr.mn u2 m2)) := L.cell rfl
      have Lc3 : (wb.alloc (.cells #[.int .i64 Tn, .int .i64 Td] 23)).cell? ⟨(w1.heap.size + 1), 3, none⟩ = some (.int .i64 (Shr.mn u3 m3)) := L.cell rfl
      go_wp2_with fail
      refine (C3.out _).mono ?_
      rintro e wc ⟨rfl, hbwc⟩
      have x := (x.pass hbwc).alloc (.cells #[.int .i64 Vn, .int .i64 Vd] 23)
      have z := (z.pass hbwc).alloc (.cells #[.int .i64 Vn, .int .i64 Vd] 23)
      have G := (G.pass hbwc).alloc (.cells #[.int .i64 Vn, .int .i64 Vd] 23)
      have L := (L.pass hbwc).alloc (.cells #[.int .i64 Vn, .int .i64 Vd] 23)
      have BS := (BS.pass hbwc).alloc (.cells #[.int .i64 Vn, .int .i64 Vd] 23)
      have BT := (BT.pass hbwc).alloc (.cells #[.int .i64 Vn, .int .i64 Vd] 23)
      have BV := Bk.new wc 23 #[.int .i64 Vn, .int .i64 Vd]
      have hB := below_pass hB hB.size hbwc
      have hB := hB.alloc hB.size (.cells #[.int .i64 Vn, .int .i64 Vd] 23)
      clear xc0 xc1 xc2 xc3 Lc0 Lc1 Lc2 Lc3 hbwc
      have BSc0 : (wc.alloc (.cells #[.int .i64 Vn, .int .i64 Vd] 23)).cell? ⟨wa.heap.size, 0, none⟩ = some (.int .i64 Sn) := BS.cell rfl
      have BSc1 : (wc.alloc (.cells #[.int .i64 Vn, .int .i64 Vd] 23)).cell? ⟨wa.heap.size, 1, none⟩ = some (.int .i64 Sd) := BS.cell rfl
      have BTc0 : (wc.alloc (.cells #[.int .i64 Vn, .int .i64 Vd] 23)).cell? ⟨wb.heap.size, 0, none⟩ = some (.int .i64 Tn) := BT.cell rfl
      have BTc1 : (wc.alloc (.cells #[.int .i64 Vn, .int .i64 Vd] 23)).cell? ⟨wb.heap.size, 1, none⟩ = some (.int .i64 Td) := BT.cell rfl
      have BVc0 : (wc.alloc (.cells #[.int .i64 Vn, .int .i64 Vd] 23)).cell? ⟨wc.heap.size, 0, none⟩ = some (.int .i64 Vn) := BV.cell rfl
      have BVc1 : (wc.alloc (.cells #[.int .i64 Vn, .int .i64 Vd] 23)).cell? ⟨wc.heap.size, 1, none⟩ = some (.int .i64 Vd) := BV.cell rfl
      have hd1 : decide (0 ≤ c1) = true := by simpa using k1
      have hd2 : decide (0 ≤ c2) = true := by simpa using k2
      go_wp2_with fail
      refine (C4.out _).mono ?_
      rintro e wd ⟨rfl, hbd⟩
      have BS := BS.pass hbd
      have BV := BV.pass hbd
      have hB := below_pass hB hB.size hbd
      clear BSc0 BSc1 BTc0 BTc1 BVc0 BVc1 hbd
      have BSc0 : wd.cell? ⟨wa.heap.size, 0, none⟩ = some (.int .i64 Sn) := BS.cell rfl
      have BSc1 : wd.cell? ⟨wa.heap.size, 1, none⟩ = some (.int .i64 Sd) := BS.cell rfl
      have BVc0 : wd.cell? ⟨wc.heap.size, 0, none⟩ = some (.int .i64 Vn) := BV.cell rfl
      have BVc1 : wd.cell? ⟨wc.heap.size, 1, none⟩ = some (.int .i64 Vd) := BV.cell rfl
      go_wp2_with fail
      refine (C5.out _).mono ?_
      rintro e we ⟨rfl, hbe⟩
      have hB := below_pass hB hB.size hbe
      go_wp2_with fail
      go_ret
      exact ⟨rfl, hB⟩

end Go.Proofs.Ytnjgkgnjbmfpfaa
