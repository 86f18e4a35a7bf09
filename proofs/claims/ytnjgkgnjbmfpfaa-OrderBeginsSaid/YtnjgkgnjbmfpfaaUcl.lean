/- The walk of the test by which order.users sorts. -/
import Derived.Test.YtnjgkgnjbmfpfaaUsr
import Derived.Test.YtnjgkgnjbmfpfaaShf
import Derived.Test.YtnjgkgnjbmfpfaaPls
namespace Go.Proofs.Ytnjgkgnjbmfpfaa
open Go.RowKit Ot

theorem cmpI_any (x y : Int) (w : World) : Calls Try.prog 51 #[.int .i64 x, .int .i64 y] w fun e w' => e = .returned (.int .i64 (Lib.compareInt x y)) ∧ w' = w := Go.Proofs.Any.cmp_Compare_int Try.lays122 x y w

/-- what the test reads: the jobs -/
def UclK (g3 : Nat) (A : Option Addr) (n c : Nat) (js : Nat → JD) (W : World) : Prop := Bk W g3 46 #[.slice A n c] ∧ WantsIn W A n js

set_option maxHeartbeats 1000000 in
theorem users1_any (g3 : Nat) (A : Option Addr) (n c : Nat) (js : Nat → JD) (x y : Int) (W : World) (hK : UclK g3 A n c js W) (hx : Shr.okI n x) (hy : Shr.okI n y) :
    Calls Try.prog 50 (#[.int .i64 x, .int .i64 y] ++ #[.pointer (some ⟨g3, 0, none⟩)]) W fun e w' => e = .returned (.int .i64 (cmpJ js x y)) ∧ Below W.heap.size W w' := by
  obtain ⟨i, hi, rfl⟩ := hx
  obtain ⟨j, hj, rfl⟩ := hy
  obtain ⟨h3, hW⟩ := hK
  obtain ⟨bl, off, rfl, hc⟩ := hW (by omega)
  have c0 := h3.cell (i := 0) rfl
  have a0 := (hc i hi).c0
  have a2 := (hc i hi).c2
  have b0 := (hc j hj).c0
  have b2 := (hc j hj).c2
  have e : Hid (cmpJ js i j = if Lib.compareInt (js j).prio (js i).prio = 0 then Lib.compareInt (js i).id (js j).id else Lib.compareInt (js j).prio (js i).prio) := Lib.hid (by unfold cmpJ; simp)
  have C1 := Lib.hid (fun W => cmpI_any (js j).prio (js i).prio W)
  have C2 := Lib.hid (fun W => cmpI_any (js i).id (js j).id W)
  obtain ⟨r, hr⟩ : ∃ r, Hid (cmpJ js i j = r) := ⟨_, Lib.hid rfl⟩
  rw [hr.out] at e ⊢
  clear hr h3 hW hc
  generalize (js j).prio = pj at *
  generalize (js i).prio = pi at *
  generalize (js j).id = ij at *
  generalize (js i).id = ii at *
  obtain ⟨r1, hr1⟩ : ∃ r, Hid (Lib.compareInt pj pi = r) := ⟨_, Lib.hid rfl⟩
  obtain ⟨r2, hr2⟩ : ∃ r, Hid (Lib.compareInt ii ij = r) := ⟨_, Lib.hid rfl⟩
  rw [hr1.out] at C1 e
  rw [hr2.out] at C2 e
  clear hr1 hr2
  have n0 : (0 : Int) ≤ (i : Int) := by omega
  have n1 : (i : Int) < (n : Int) := by omega
  have n2 : (0 : Int) ≤ (j : Int) := by omega
  have n3 : (j : Int) < (n : Int) := by omega
  show Calls _ _ #[.int .i64 i, .int .i64 j, .pointer (some ⟨g3, 0, none⟩)] _ _
  go_enter Try.func50, Try.ntmps50
  go_upto_region 1 with fail
  by_cases h0 : r1 = 0
  · have e0 : (r1 == 0) = true := by simp [h0]
    have HE := Lib.hid (show r2 = r by have := e.out; rw [if_pos h0] at this; exact this.symm)
    clear h0
    go_region_held3 (fun w' => w'.cell? ⟨g3, 0, none⟩ = some (.slice (some ⟨bl, off, none⟩) n c) ∧ w'.cell? ⟨bl, off + i * 7, none⟩ = some (.int .i64 ii) ∧ w'.cell? ⟨bl, off + i * 7 + 2, none⟩ = some (.int .i64 pi) ∧ w'.cell? ⟨bl, off + j * 7, none⟩ = some (.int .i64 ij) ∧ w'.cell? ⟨bl, off + j * 7 + 2, none⟩ = some (.int .i64 pj)) (first | (refine ⟨?_, ?_, ?_, ?_, ?_⟩ <;> assumption) | assumption) (first | (go_at_call 51; refine (C1.out _).mono ?_; rintro e w' ⟨rfl, rfl⟩))
    all_goals
      go_upto_region 4 with fail
      have d0 : W.drew.cell? ⟨g3, 0, none⟩ = some (.slice (some ⟨bl, off, none⟩) n c) := c0
      have d1 : W.drew.cell? ⟨bl, off + i * 7, none⟩ = some (.int .i64 ii) := a0
      have d2 : W.drew.cell? ⟨bl, off + i * 7 + 2, none⟩ = some (.int .i64 pi) := a2
      have d3 : W.drew.cell? ⟨bl, off + j * 7, none⟩ = some (.int .i64 ij) := b0
      have d4 : W.drew.cell? ⟨bl, off + j * 7 + 2, none⟩ = some (.int .i64 pj) := b2
      go_region_held3 (fun w' => w'.cell? ⟨g3, 0, none⟩ = some (.slice (some ⟨bl, off, none⟩) n c) ∧ w'.cell? ⟨bl, off + i * 7, none⟩ = some (.int .i64 ii) ∧ w'.cell? ⟨bl, off + i * 7 + 2, none⟩ = some (.int .i64 pi) ∧ w'.cell? ⟨bl, off + j * 7, none⟩ = some (.int .i64 ij) ∧ w'.cell? ⟨bl, off + j * 7 + 2, none⟩ = some (.int .i64 pj)) (first | (refine ⟨?_, ?_, ?_, ?_, ?_⟩ <;> assumption) | assumption) (first | (go_at_call 51; refine (C2.out _).mono ?_; rintro e w' ⟨rfl, rfl⟩))
      all_goals
        go_wp2_with fail
        go_ret
        obtain rfl := HE.out
        exact ⟨rfl, (Below.refl W.heap.size W).drew.drew⟩
  · have e0 : (r1 == 0) = false := by simp [h0]
    have HE := Lib.hid (show r1 = r by have := e.out; rw [if_neg h0] at this; exact this.symm)
    clear h0
    go_region_held3 (fun w' => w'.cell? ⟨g3, 0, none⟩ = some (.slice (some ⟨bl, off, none⟩) n c) ∧ w'.cell? ⟨bl, off + i * 7, none⟩ = some (.int .i64 ii) ∧ w'.cell? ⟨bl, off + i * 7 + 2, none⟩ = some (.int .i64 pi) ∧ w'.cell? ⟨bl, off + j * 7, none⟩ = some (.int .i64 ij) ∧ w'.cell? ⟨bl, off + j * 7 + 2, none⟩ = some (.int .i64 pj)) (first | (refine ⟨?_, ?_, ?_, ?_, ?_⟩ <;> assumption) | assumption) (first | (go_at_call 51; refine (C1.out _).mono ?_; rintro e w' ⟨rfl, rfl⟩))
    all_goals
      go_wp2_with fail
      go_ret
      obtain rfl := HE.out
      exact ⟨rfl, (Below.refl W.heap.size W).drew⟩
end Go.Proofs.Ytnjgkgnjbmfpfaa
