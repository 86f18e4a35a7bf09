/- The walks of the two Plus. -/
import Derived.Test.YtnjgkgnjbmfpfaaOrm
import Derived.Test.YtnjgkgnjbmfpfaaFr
import Derived.Test.YtnjgkgnjbmfpfaaWd
import Derived.Deep.QuietTactic
import Derived.BigQuiet
import Derived.Deep.RegionWith
import Derived.Deep.RegionHeld3
import Derived.Deep.DeepCutAuto
namespace Go.Proofs.Ytnjgkgnjbmfpfaa
open Go.RowKit Ot

/-- n cells of the block g -/
def ValB (w : World) (t : TypeId) (g n : Nat) (f : Nat → Value) : Prop := ∃ cs, Bk w g t cs ∧ cs.size = n ∧ ∀ j, j < n → cs[j]? = some (f j)
section
variable {w w' : World} {t : TypeId} {g n : Nat} {f : Nat → Value}
theorem ValB.lt (h : ValB w t g n f) : g < w.heap.size := by
  obtain ⟨cs, h1, _⟩ := h
  exact h1.lt
theorem ValB.keep (h : ValB w t g n f) (hb : w'.heap[g]? = w.heap[g]?) : ValB w' t g n f := by
  obtain ⟨cs, h1, h2⟩ := h
  exact ⟨cs, hb.trans h1, h2⟩
theorem ValB.cell (h : ValB w t g n f) {j : Nat} (hj : j < n) : w.cell? ⟨g, j, none⟩ = some (f j) := by
  obtain ⟨cs, h1, _, h3⟩ := h
  exact h1.cell (h3 j hj)
theorem ValB.free (h : ValB w t g n f) (j : Nat) : w.frozen? ⟨g, j, none⟩ = false := by
  obtain ⟨cs, h1, _⟩ := h
  exact h1.free j
theorem ValB.set (h : ValB w t g n f) {i : Nat} (_hi : i < n) (x : Value) : ValB (w.setCell ⟨g, i, none⟩ x) t g n (upd f i x) := by
  obtain ⟨cs, h1, h2, h3⟩ := h
  refine ⟨_, h1.set i x, by simp [h2], fun j hj => ?_⟩
  rw [Array.getElem?_setIfInBounds]
  unfold upd
  by_cases e : i = j
  · rw [if_pos e, if_pos (by omega), if_pos e.symm]
  · rw [if_neg e, if_neg (by omega)]
    exact h3 j hj
theorem ValB.congr (h : ValB w t g n f) {f' : Nat → Value} (hf : ∀ j, j < n → f j = f' j) : ValB w t g n f' := by
  obtain ⟨cs, h1, h2, h3⟩ := h
  exact ⟨cs, h1, h2, fun j hj => by rw [← hf j hj]; exact h3 j hj⟩
end

theorem clip_any (n : Int) (w : World) : Calls Try.prog 43 #[.int .i64 n] w fun e w' => e = .returned (.int .i64 (clip n)) ∧ w' = w := by
  go_enter Try.func43, Try.ntmps43
  go_wp2_with fail
  all_goals
    go_ret
    refine ⟨ret_int ?_, rfl⟩
    unfold clip most
    omega
theorem rclip_any (n : Int) (w : World) : Calls Try.prog 44 #[.int .i64 n] w fun e w' => e = .returned (.int .i64 (clip n)) ∧ w' = w := by
  go_enter Try.func44, Try.ntmps44
  go_wp2_with fail
  all_goals
    go_ret
    refine ⟨ret_int ?_, rfl⟩
    unfold clip most
    omega

/-- an amount as a value -/
def vecV (a : Nat → Int) : Value := .agg #[.int .i64 (a 0), .int .i64 (a 1), .int .i64 (a 2), .int .i64 (a 3)]
theorem vec_at (w : World) (g : Nat) (a : Nat → Int) (h : Bk w g 28 #[.int .i64 (a 0), .int .i64 (a 1), .int .i64 (a 2), .int .i64 (a 3)]) {k : Nat} (hk : k < 4) : w.cell? ⟨g, k, none⟩ = some (.int .i64 (a k)) := by
  have h5 : k = 0 ∨ k = 1 ∨ k = 2 ∨ k = 3 := by omega
  rcases h5 with rfl | rfl | rfl | rfl <;> exact h.cell rfl
def part (a b : Nat → Int) (k : Nat) : Nat → Value := fun j => .int .i64 (if j < k then plus a b j else 0)
theorem part_next (a b : Nat → Int) (k : Nat) : ∀ j, j < 4 → upd (part a b k) k (.int .i64 (plus a b k)) j = part a b (k + 1) j := fun j _ => by
  unfold part
  by_cases e : j = k
  · subst e; rw [upd_same, if_pos (by omega)]
  · rw [upd_other _ _ e]
    by_cases c : j < k
    · rw [if_pos c, if_pos (by omega)]
    · rw [if_neg c, if_neg (by omega)]

set_option maxHeartbeats 2000000 in
theorem plus_any (a b : Nat → Int) (w : World) : Calls Try.prog 28 #[vecV a, vecV b] w fun e w' => e = .returned (vecV (plus a b)) ∧ Below w.heap.size w w' := by
  unfold vecV
  obtain ⟨a0, h0⟩ : ∃ x, Hid (a 0 = x) := ⟨_, Lib.hid rfl⟩
  obtain ⟨a1, h1⟩ : ∃ x, Hid (a 1 = x) := ⟨_, Lib.hid rfl⟩
  obtain ⟨a2, h2⟩ : ∃ x, Hid (a 2 = x) := ⟨_, Lib.hid rfl⟩
  obtain ⟨a3, h3⟩ : ∃ x, Hid (a 3 = x) := ⟨_, Lib.hid rfl⟩
  obtain ⟨b0, k0⟩ : ∃ x, Hid (b 0 = x) := ⟨_, Lib.hid rfl⟩
  obtain ⟨b1, k1⟩ : ∃ x, Hid (b 1 = x) := ⟨_, Lib.hid rfl⟩
  obtain ⟨b2, k2⟩ : ∃ x, Hid (b 2 = x) := ⟨_, Lib.hid rfl⟩
  obtain ⟨b3, k3⟩ : ∃ x, Hid (b 3 = x) := ⟨_, Lib.hid rfl⟩
  rw [h0.out, h1.out, h2.out, h3.out, k0.out, k1.out, k2.out, k3.out]
  go_enter Try.func28, Try.ntmps28
  go_wp2_with fail
  go_loopg [7] 4 (fun g s7 wr => ∃ k : Nat, k ≤ 4 ∧ g = 4 - k ∧ s7 = .int .i64 k ∧ Hid (Bk wr w.heap.size 28 #[.int .i64 a0, .int .i64 a1, .int .i64 a2, .int .i64 a3] ∧ Bk wr (w.heap.size + 1) 28 #[.int .i64 b0, .int .i64 b1, .int .i64 b2, .int .i64 b3] ∧
    Bk wr (w.heap.size + 2) 28 #[.int .i64 0, .int .i64 0, .int .i64 0, .int .i64 0] ∧ ValB wr 28 (w.heap.size + 3) 4 (part a b k)) ∧ Below w.heap.size w wr)
  case atStart =>
    refine ⟨0, by omega, by omega, rfl, Lib.hid ⟨(((Bk.newAt rfl).alloc _).alloc _).alloc _, ((Bk.newAt (by simp)).alloc _).alloc _, (Bk.newAt (by simp)).alloc _, _, Bk.newAt (by simp), by simp, fun j hj => ?_⟩, ((((Below.refl _ _).alloc (Nat.le_refl _) _).alloc (by simp) _).alloc (by simp; omega) _).alloc (by simp; omega) _⟩
    have h5 : j = 0 ∨ j = 1 ∨ j = 2 ∨ j = 3 := by omega
    rcases h5 with rfl | rfl | rfl | rfl <;> rfl
  case round =>
    obtain ⟨k, hk, hg, rfl, K, hB⟩ := hrel
    by_cases h4 : k < 4
    · have hx : wr.cell? ⟨w.heap.size, k, none⟩ = some (.int .i64 (a k)) := vec_at wr _ a (by rw [h0.out, h1.out, h2.out, h3.out]; exact K.out.1) h4
      have hy : wr.cell? ⟨w.heap.size + 1, k, none⟩ = some (.int .i64 (b k)) := vec_at wr _ b (by rw [k0.out, k1.out, k2.out, k3.out]; exact K.out.2.1) h4
      have hz := K.out.2.2.2.cell h4
      have hf := K.out.2.2.2.free k
      have hp := K.out.2.2.2.set h4 (.int .i64 (plus a b k))
      have HN := Lib.hid (hp.congr (part_next a b k))
      have e : Hid (clip (clip (a k) + clip (b k)) = plus a b k) := Lib.hid rfl
      have r0 := clip_range (a k)
      have r1 := clip_range (b k)
      have K0 : (0 : Int) ≤ (k : Int) := by omega
      have K4 : (k : Int) < 4 := by omega
      obtain ⟨v, hv⟩ : ∃ v, Hid (plus a b k = v) := ⟨_, Lib.hid rfl⟩
      rw [hv.out] at e HN
      obtain ⟨x, hx0⟩ : ∃ v, Hid (a k = v) := ⟨_, Lib.hid rfl⟩
      obtain ⟨y, hy0⟩ : ∃ v, Hid (b k = v) := ⟨_, Lib.hid rfl⟩
      rw [hx0.out] at hx r0
      rw [hy0.out] at hy r1
      rw [hx0.out, hy0.out] at e
      obtain ⟨o, ho⟩ : ∃ v, Hid (part a b k k = v) := ⟨_, Lib.hid rfl⟩
      rw [ho.out] at hz
      obtain ⟨x', hx1⟩ : ∃ v, Hid (clip x = v) := ⟨_, Lib.hid rfl⟩
      obtain ⟨y', hy1⟩ : ∃ v, Hid (clip y = v) := ⟨_, Lib.hid rfl⟩
      have C0 := Lib.hid (fun W => clip_any x W)
      have C1 := Lib.hid (fun W => clip_any y W)
      rw [hx1.out] at C0 r0
      rw [hy1.out] at C1 r1
      rw [hx1.out, hy1.out] at e
      unfold most at r0 r1
      obtain ⟨r00, r01⟩ := r0
      obtain ⟨r10, r11⟩ := r1
      have ew : clip (IntKind.i64.wrap (x' + y')) = v := by
        rw [show IntKind.i64.wrap (x' + y') = x' + y' by simp [IntKind.wrap, IntKind.bits, IntKind.signed]; omega]
        exact e.out
      have C2 := Lib.hid (fun W => clip_any (IntKind.i64.wrap (x' + y')) W)
      rw [ew] at C2
      clear ew
      clear hp
      go_upto_region 5 with fail
      go_region_with (first | (go_at_call 43; first | (refine (C0.out _).mono ?_; rintro e w' ⟨rfl, rfl⟩) | (refine (C1.out _).mono ?_; rintro e w' ⟨rfl, rfl⟩) | (refine (C2.out _).mono ?_; rintro e w' ⟨rfl, rfl⟩)))
      all_goals
        go_wp2_with fail
        go_roundg (4 - (k + 1))
        case measure => omega
        case rel => exact ⟨k + 1, by omega, rfl, by go_num, Lib.hid ⟨K.out.1.far (by dsimp only; omega) _, K.out.2.1.far (by dsimp only; omega) _, K.out.2.2.1.far (by dsimp only; omega) _, HN.out⟩, hB.drew.setCell (by dsimp only; omega) _⟩
    · obtain rfl : k = 4 := by omega
      have d0 : wr.cell? ⟨w.heap.size + 3, 0, none⟩ = some (.int .i64 (plus a b 0)) := K.out.2.2.2.cell (j := 0) (by omega)
      have d1 : wr.cell? ⟨w.heap.size + 3, 1, none⟩ = some (.int .i64 (plus a b 1)) := K.out.2.2.2.cell (j := 1) (by omega)
      have d2 : wr.cell? ⟨w.heap.size + 3, 2, none⟩ = some (.int .i64 (plus a b 2)) := K.out.2.2.2.cell (j := 2) (by omega)
      have d3 : wr.cell? ⟨w.heap.size + 3, 3, none⟩ = some (.int .i64 (plus a b 3)) := K.out.2.2.2.cell (j := 3) (by omega)
      have z0 : wr.cell? ⟨w.heap.size + 2, 0, none⟩ = some (.int .i64 0) := K.out.2.2.1.cell rfl
      have z1 : wr.cell? ⟨w.heap.size + 2, 1, none⟩ = some (.int .i64 0) := K.out.2.2.1.cell rfl
      have z2 : wr.cell? ⟨w.heap.size + 2, 2, none⟩ = some (.int .i64 0) := K.out.2.2.1.cell rfl
      have z3 : wr.cell? ⟨w.heap.size + 2, 3, none⟩ = some (.int .i64 0) := K.out.2.2.1.cell rfl
      have f0 := K.out.2.2.1.free 0
      have f1 := K.out.2.2.1.free 1
      have f2 := K.out.2.2.1.free 2
      have f3 := K.out.2.2.1.free 3
      obtain ⟨p0, hp0⟩ : ∃ v, Hid (plus a b 0 = v) := ⟨_, Lib.hid rfl⟩
      rw [hp0.out] at d0
      obtain ⟨p1, hp1⟩ : ∃ v, Hid (plus a b 1 = v) := ⟨_, Lib.hid rfl⟩
      rw [hp1.out] at d1
      obtain ⟨p2, hp2⟩ : ∃ v, Hid (plus a b 2 = v) := ⟨_, Lib.hid rfl⟩
      rw [hp2.out] at d2
      obtain ⟨p3, hp3⟩ : ∃ v, Hid (plus a b 3 = v) := ⟨_, Lib.hid rfl⟩
      rw [hp3.out] at d3
      go_wp2_with fail
      exact bodyPost_ret (v := .agg #[.int .i64 p0, .int .i64 p1, .int .i64 p2, .int .i64 p3]) (by simp [results, Try.results28, go_sem, z0, z1, z2, z3]) rfl ⟨by rw [hp0.out, hp1.out, hp2.out, hp3.out], (((hB.setCell (by dsimp only; omega) _).setCell (by dsimp only; omega) _).setCell (by dsimp only; omega) _).setCell (by dsimp only; omega) _⟩

set_option maxHeartbeats 2000000 in
theorem rplus_any (a b : Nat → Int) (w : World) : Calls Try.prog 29 #[vecV a, vecV b] w fun e w' => e = .returned (vecV (plus a b)) ∧ Below w.heap.size w w' := by
  unfold vecV
  obtain ⟨a0, h0⟩ : ∃ x, Hid (a 0 = x) := ⟨_, Lib.hid rfl⟩
  obtain ⟨a1, h1⟩ : ∃ x, Hid (a 1 = x) := ⟨_, Lib.hid rfl⟩
  obtain ⟨a2, h2⟩ : ∃ x, Hid (a 2 = x) := ⟨_, Lib.hid rfl⟩
  obtain ⟨a3, h3⟩ : ∃ x, Hid (a 3 = x) := ⟨_, Lib.hid rfl⟩
  obtain ⟨b0, k0⟩ : ∃ x, Hid (b 0 = x) := ⟨_, Lib.hid rfl⟩
  obtain ⟨b1, k1⟩ : ∃ x, Hid (b 1 = x) := ⟨_, Lib.hid rfl⟩
  obtain ⟨b2, k2⟩ : ∃ x, Hid (b 2 = x) := ⟨_, Lib.hid rfl⟩
  obtain ⟨b3, k3⟩ : ∃ x, Hid (b 3 = x) := ⟨_, Lib.hid rfl⟩
  rw [h0.out, h1.out, h2.out, h3.out, k0.out, k1.out, k2.out, k3.out]
  go_enter Try.func29, Try.ntmps29
  go_wp2_with fail
  go_loopg [6] 4 (fun g s7 wr => ∃ k : Nat, k ≤ 4 ∧ g = 4 - k ∧ s7 = .int .i64 k ∧ Hid (Bk wr w.heap.size 28 #[.int .i64 a0, .int .i64 a1, .int .i64 a2, .int .i64 a3] ∧ Bk wr (w.heap.size + 1) 28 #[.int .i64 b0, .int .i64 b1, .int .i64 b2, .int .i64 b3] ∧
    Bk wr (w.heap.size + 2) 28 #[.int .i64 0, .int .i64 0, .int .i64 0, .int .i64 0] ∧ ValB wr 28 (w.heap.size + 3) 4 (part a b k)) ∧ Below w.heap.size w wr)
  case atStart =>
    refine ⟨0, by omega, by omega, rfl, Lib.hid ⟨(((Bk.newAt rfl).alloc _).alloc _).alloc _, ((Bk.newAt (by simp)).alloc _).alloc _, (Bk.newAt (by simp)).alloc _, _, Bk.newAt (by simp), by simp, fun j hj => ?_⟩, ((((Below.refl _ _).alloc (Nat.le_refl _) _).alloc (by simp) _).alloc (by simp; omega) _).alloc (by simp; omega) _⟩
    have h5 : j = 0 ∨ j = 1 ∨ j = 2 ∨ j = 3 := by omega
    rcases h5 with rfl | rfl | rfl | rfl <;> rfl
  case round =>
    obtain ⟨k, hk, hg, rfl, K, hB⟩ := hrel
    by_cases h4 : k < 4
    · have hx : wr.cell? ⟨w.heap.size, k, none⟩ = some (.int .i64 (a k)) := vec_at wr _ a (by rw [h0.out, h1.out, h2.out, h3.out]; exact K.out.1) h4
      have hy : wr.cell? ⟨w.heap.size + 1, k, none⟩ = some (.int .i64 (b k)) := vec_at wr _ b (by rw [k0.out, k1.out, k2.out, k3.out]; exact K.out.2.1) h4
      have hz := K.out.2.2.2.cell h4
      have hf := K.out.2.2.2.free k
      have hp := K.out.2.2.2.set h4 (.int .i64 (plus a b k))
      have HN := Lib.hid (hp.congr (part_next a b k))
      have e : Hid (clip (clip (a k) + clip (b k)) = plus a b k) := Lib.hid rfl
      have r0 := clip_range (a k)
      have r1 := clip_range (b k)
      have K0 : (0 : Int) ≤ (k : Int) := by omega
      have K4 : (k : Int) < 4 := by omega
      obtain ⟨v, hv⟩ : ∃ v, Hid (plus a b k = v) := ⟨_, Lib.hid rfl⟩
      rw [hv.out] at e HN
      obtain ⟨x, hx0⟩ : ∃ v, Hid (a k = v) := ⟨_, Lib.hid rfl⟩
      obtain ⟨y, hy0⟩ : ∃ v, Hid (b k = v) := ⟨_, Lib.hid rfl⟩
      rw [hx0.out] at hx r0
      rw [hy0.out] at hy r1
      rw [hx0.out, hy0.out] at e
      obtain ⟨o, ho⟩ : ∃ v, Hid (part a b k k = v) := ⟨_, Lib.hid rfl⟩
      rw [ho.out] at hz
      obtain ⟨x', hx1⟩ : ∃ v, Hid (clip x = v) := ⟨_, Lib.hid rfl⟩
      obtain ⟨y', hy1⟩ : ∃ v, Hid (clip y = v) := ⟨_, Lib.hid rfl⟩
      have C0 := Lib.hid (fun W => rclip_any x W)
      have C1 := Lib.hid (fun W => rclip_any y W)
      rw [hx1.out] at C0 r0
      rw [hy1.out] at C1 r1
      rw [hx1.out, hy1.out] at e
      unfold most at r0 r1
      obtain ⟨r00, r01⟩ := r0
      obtain ⟨r10, r11⟩ := r1
      have ew : clip (IntKind.i64.wrap (x' + y')) = v := by
        rw [show IntKind.i64.wrap (x' + y') = x' + y' by simp [IntKind.wrap, IntKind.bits, IntKind.signed]; omega]
        exact e.out
      have C2 := Lib.hid (fun W => rclip_any (IntKind.i64.wrap (x' + y')) W)
      rw [ew] at C2
      clear ew
      clear hp
      go_upto_region 5 with fail
      go_region_with (first | (go_at_call 44; first | (refine (C0.out _).mono ?_; rintro e w' ⟨rfl, rfl⟩) | (refine (C1.out _).mono ?_; rintro e w' ⟨rfl, rfl⟩) | (refine (C2.out _).mono ?_; rintro e w' ⟨rfl, rfl⟩)))
      all_goals
        go_wp2_with fail
        go_roundg (4 - (k + 1))
        case measure => omega
        case rel => exact ⟨k + 1, by omega, rfl, by go_num, Lib.hid ⟨K.out.1.far (by dsimp only; omega) _, K.out.2.1.far (by dsimp only; omega) _, K.out.2.2.1.far (by dsimp only; omega) _, HN.out⟩, hB.drew.setCell (by dsimp only; omega) _⟩
    · obtain rfl : k = 4 := by omega
      have d0 : wr.cell? ⟨w.heap.size + 3, 0, none⟩ = some (.int .i64 (plus a b 0)) := K.out.2.2.2.cell (j := 0) (by omega)
      have d1 : wr.cell? ⟨w.heap.size + 3, 1, none⟩ = some (.int .i64 (plus a b 1)) := K.out.2.2.2.cell (j := 1) (by omega)
      have d2 : wr.cell? ⟨w.heap.size + 3, 2, none⟩ = some (.int .i64 (plus a b 2)) := K.out.2.2.2.cell (j := 2) (by omega)
      have d3 : wr.cell? ⟨w.heap.size + 3, 3, none⟩ = some (.int .i64 (plus a b 3)) := K.out.2.2.2.cell (j := 3) (by omega)
      have z0 : wr.cell? ⟨w.heap.size + 2, 0, none⟩ = some (.int .i64 0) := K.out.2.2.1.cell rfl
      have z1 : wr.cell? ⟨w.heap.size + 2, 1, none⟩ = some (.int .i64 0) := K.out.2.2.1.cell rfl
      have z2 : wr.cell? ⟨w.heap.size + 2, 2, none⟩ = some (.int .i64 0) := K.out.2.2.1.cell rfl
      have z3 : wr.cell? ⟨w.heap.size + 2, 3, none⟩ = some (.int .i64 0) := K.out.2.2.1.cell rfl
      have f0 := K.out.2.2.1.free 0
      have f1 := K.out.2.2.1.free 1
      have f2 := K.out.2.2.1.free 2
      have f3 := K.out.2.2.1.free 3
      obtain ⟨p0, hp0⟩ : ∃ v, Hid (plus a b 0 = v) := ⟨_, Lib.hid rfl⟩
      rw [hp0.out] at d0
      obtain ⟨p1, hp1⟩ : ∃ v, Hid (plus a b 1 = v) := ⟨_, Lib.hid rfl⟩
      rw [hp1.out] at d1
      obtain ⟨p2, hp2⟩ : ∃ v, Hid (plus a b 2 = v) := ⟨_, Lib.hid rfl⟩
      rw [hp2.out] at d2
      obtain ⟨p3, hp3⟩ : ∃ v, Hid (plus a b 3 = v) := ⟨_, Lib.hid rfl⟩
      rw [hp3.out] at d3
      go_wp2_with fail
      exact bodyPost_ret (v := .agg #[.int .i64 p0, .int .i64 p1, .int .i64 p2, .int .i64 p3]) (by simp [results, Try.results29, go_sem, z0, z1, z2, z3]) rfl ⟨by rw [hp0.out, hp1.out, hp2.out, hp3.out], (((hB.setCell (by dsimp only; omega) _).setCell (by dsimp only; omega) _).setCell (by dsimp only; omega) _).setCell (by dsimp only; omega) _⟩
end Go.Proofs.Ytnjgkgnjbmfpfaa
