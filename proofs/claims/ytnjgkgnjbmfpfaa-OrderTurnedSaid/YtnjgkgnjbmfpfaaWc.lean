/- The walk of the reference's Compare, which calls itself: whole parts first, then what is left. -/
import Derived.Test.YtnjgkgnjbmfpfaaWb
namespace Go.Proofs.Ytnjgkgnjbmfpfaa
open Go.RowKit Go.Shelf

set_option maxHeartbeats 400000 in
theorem rplain_any (a b A B : Int) (hA : A = Shr.pl a) (hB : B = Shr.pl b) (w : World) :
    Calls Try.prog 39 #[.agg #[.int .i64 a, .int .i64 b]] w fun e w' => e = .returned (.agg #[.int .i64 A, .int .i64 B]) ∧ w' = (w.alloc (.cells #[.int .i64 a, .int .i64 b] 23)).alloc (.cells #[.int .i64 A, .int .i64 B] 23) := by
  subst hA hB
  go_enter Try.func39, Try.ntmps39
  by_cases h1 : a < 0 <;> by_cases h2 : b < 0
  · go_wp2
    exact bodyPost_ret (v := .agg #[.int .i64 0, .int .i64 0]) (by simp [results, Try.results39, go_sem]) rfl ⟨by rw [pl_lt h1, pl_lt h2], by rw [pl_lt h1, pl_lt h2]⟩
  · go_wp2
    exact bodyPost_ret (v := .agg #[.int .i64 0, .int .i64 b]) (by simp [results, Try.results39, go_sem]) rfl ⟨by rw [pl_lt h1, pl_ge (by omega)], by rw [pl_lt h1, pl_ge (by omega)]⟩
  · go_wp2
    exact bodyPost_ret (v := .agg #[.int .i64 a, .int .i64 0]) (by simp [results, Try.results39, go_sem]) rfl ⟨by rw [pl_lt h2, pl_ge (by omega)], by rw [pl_lt h2, pl_ge (by omega)]⟩
  · go_wp2
    exact bodyPost_ret (v := .agg #[.int .i64 a, .int .i64 b]) (by simp [results, Try.results39, go_sem]) rfl ⟨by rw [pl_ge (a := a) (by omega), pl_ge (by omega)], by rw [pl_ge (a := a) (by omega), pl_ge (by omega)]⟩

set_option maxHeartbeats 400000 in
theorem loose_any (a b c d : Int) (w : World) :
    Calls Try.prog 40 #[.agg #[.int .i64 a, .int .i64 b], .agg #[.int .i64 c, .int .i64 d]] w fun e w' => e = .returned (.int .i64 (Shr.sg (Shr.ht a b) (Shr.ht c d))) ∧ Below w.heap.size w w' := by
  go_enter Try.func40, Try.ntmps40
  go_wp2_with (go_at_call 48; refine (rheight_any _ _ _).mono ?_; rintro e w' ⟨rfl, rfl⟩)
  · go_ret
    exact ⟨ret_int (Shr.sg_gt ‹_›).symm, ((((Below.refl _ _).alloc (Nat.le_refl _) _).alloc (by simp) _).alloc (by simp; omega) _).alloc (by simp; omega) _⟩
  · go_ret
    exact ⟨ret_int (Shr.sg_lt ‹_›).symm, ((((Below.refl _ _).alloc (Nat.le_refl _) _).alloc (by simp) _).alloc (by simp; omega) _).alloc (by simp; omega) _⟩
  · go_ret
    exact ⟨ret_int (Shr.sg_eq (by omega)).symm, ((((Below.refl _ _).alloc (Nat.le_refl _) _).alloc (by simp) _).alloc (by simp; omega) _).alloc (by simp; omega) _⟩

theorem below6 (w : World) (o1 o2 o3 o4 o5 o6 : Obj) : Below w.heap.size w ((((((w.alloc o1).alloc o2).alloc o3).alloc o4).alloc o5).alloc o6) :=
  ((((((Below.refl _ _).alloc (Nat.le_refl _) _).alloc (by simp) _).alloc (by simp; omega) _).alloc (by simp; omega) _).alloc (by simp; omega) _).alloc (by simp; omega) _

set_option maxHeartbeats 1000000 in
theorem rcompare_any (n : Nat) : ∀ (a b c d : Int) (w : World), a ≤ 9223372036854775807 → b ≤ 9223372036854775807 → c ≤ 9223372036854775807 → d ≤ 9223372036854775807 → Shr.pl b + Shr.pl d < n →
    Calls Try.prog 18 #[.agg #[.int .i64 a, .int .i64 b], .agg #[.int .i64 c, .int .i64 d]] w fun e w' => e = .returned (.int .i64 (Shr.cmp a b c d)) ∧ Below w.heap.size w w' := by
  induction n with
  | zero => intro a b c d w _ _ _ _ h; have := Shr.pl_nonneg b; have := Shr.pl_nonneg d; omega
  | succ n ih =>
    intro a b c d w ha hb hc hd hn
    have IH := Lib.hid ih
    clear ih
    have pa : 0 ≤ Shr.pl a ∧ Shr.pl a ≤ 9223372036854775807 := by unfold Shr.pl; omega
    have pb : 0 ≤ Shr.pl b ∧ Shr.pl b ≤ 9223372036854775807 := by unfold Shr.pl; omega
    have pc : 0 ≤ Shr.pl c ∧ Shr.pl c ≤ 9223372036854775807 := by unfold Shr.pl; omega
    have pd : 0 ≤ Shr.pl d ∧ Shr.pl d ≤ 9223372036854775807 := by unfold Shr.pl; omega
    clear ha hb hc hd
    unfold Shr.cmp
    have c1 := Lib.hid (fun w => rplain_any a b _ _ rfl rfl w)
    have c2 := Lib.hid (fun w => rplain_any c d _ _ rfl rfl w)
    generalize Shr.pl a = A at *
    generalize Shr.pl b = B at *
    generalize Shr.pl c = C at *
    generalize Shr.pl d = D at *
    obtain ⟨pa0, pa1⟩ := pa
    obtain ⟨pb0, pb1⟩ := pb
    obtain ⟨pc0, pc1⟩ := pc
    obtain ⟨pd0, pd1⟩ := pd
    by_cases h0 : B = 0 ∨ D = 0
    · have HR := Lib.hid (Shr.cmpP_loose (a := A) (c := C) h0)
      have h0' : B = 0 ∨ (0 < B ∧ D = 0) := by omega
      clear h0
      rcases h0' with rfl | ⟨hbp, rfl⟩
      all_goals
        go_enter Try.func18, Try.ntmps18
        go_wp2_with fail
        refine (c1.out _).mono ?_
        rintro e w' ⟨rfl, rfl⟩
        go_wp2_with fail
        refine (c2.out _).mono ?_
        rintro e w' ⟨rfl, rfl⟩
        go_wp2_with fail
        all_goals
          refine (loose_any _ _ _ _ _).mono ?_
          rintro e w' ⟨rfl, hb⟩
          go_wp2_with fail
          go_ret
          exact ⟨ret_int HR.out.symm, (below6 w _ _ _ _ _ _).trans (hb.mono (below6 w _ _ _ _ _ _).size)⟩
    · have hb0 : 0 < B := by omega
      have hd0 : 0 < D := by omega
      have hp := Int.emod_nonneg A (b := B) (by omega)
      have hq := Int.emod_nonneg C (b := D) (by omega)
      clear h0
      go_enter Try.func18, Try.ntmps18
      go_wp2_with fail
      refine (c1.out _).mono ?_
      rintro e w' ⟨rfl, rfl⟩
      go_wp2_with fail
      refine (c2.out _).mono ?_
      rintro e w' ⟨rfl, rfl⟩
      go_wp2_with fail
      · exfalso
        rcases ‹(B == 0) = true ∨ (D == 0) = true› with h | h <;> simp at h <;> omega
      · go_ret
        exact ⟨ret_int (Shr.cmpP_div_gt pa0 hb0 pc0 hd0 ‹C / D < A / B›).symm, below6 w _ _ _ _ _ _⟩
      · go_ret
        have hne : A / B ≠ C / D := by simpa using ‹(A / B != C / D) = true›
        have hle := ‹A / B ≤ C / D›
        exact ⟨ret_int (Shr.cmpP_div_lt pa0 hb0 pc0 hd0 (by omega)).symm, below6 w _ _ _ _ _ _⟩
      · go_ret
        have he : A / B = C / D := by simpa using ‹(A / B != C / D) = false›
        exact ⟨ret_int (Shr.cmpP_mod_lt pa0 hb0 pc0 hd0 he ‹A % B = 0› ‹0 < C % D›).symm, below6 w _ _ _ _ _ _⟩
      · go_ret
        have he : A / B = C / D := by simpa using ‹(A / B != C / D) = false›
        have hle := ‹C % D ≤ 0›
        exact ⟨ret_int (Shr.cmpP_mod_eq pa0 hb0 pc0 hd0 he ‹A % B = 0› (by omega)).symm, below6 w _ _ _ _ _ _⟩
      · go_ret
        have he : A / B = C / D := by simpa using ‹(A / B != C / D) = false›
        have hlt := ‹0 < A % B›
        have hor : A % B = 0 ∨ C % D = 0 := by simpa using ‹(A % B == 0) = true ∨ (C % D == 0) = true›
        exact ⟨ret_int (Shr.cmpP_mod_gt pa0 hb0 pc0 hd0 he hlt (by omega)).symm, below6 w _ _ _ _ _ _⟩
      · have he : A / B = C / D := by simpa using ‹(A / B != C / D) = false›
        have hne : A % B ≠ 0 ∧ C % D ≠ 0 := by simpa using ‹(A % B == 0) = false ∧ (C % D == 0) = false›
        have hl1 := Int.emod_lt_of_pos A hb0
        have hl2 := Int.emod_lt_of_pos C hd0
        have hs := Lib.hid (Shr.cmpP_step pa0 hb0 pc0 hd0 he (by omega) (by omega))
        clear he hne
        refine (IH.out D (C % D) B (A % B) _ pd1 (by omega) pb1 (by omega) (by rw [pl_ge hp, pl_ge hq]; omega)).mono ?_
        rintro e w' ⟨rfl, hb⟩
        go_wp2_with fail
        go_ret
        refine ⟨ret_int ?_, (below6 w _ _ _ _ _ _).trans (hb.mono (below6 w _ _ _ _ _ _).size)⟩
        rw [hs.out]
        unfold Shr.cmp
        rw [pl_ge hp, pl_ge hq, pl_ge pd0, pl_ge pb0]

/-- any two shares, the reference's comparison -/
theorem rcompare_all (a b c d : Int) (ha : a ≤ 9223372036854775807) (hb : b ≤ 9223372036854775807) (hc : c ≤ 9223372036854775807) (hd : d ≤ 9223372036854775807) (w : World) :
    Calls Try.prog 18 #[.agg #[.int .i64 a, .int .i64 b], .agg #[.int .i64 c, .int .i64 d]] w fun e w' => e = .returned (.int .i64 (Shr.cmp a b c d)) ∧ Below w.heap.size w w' :=
  rcompare_any ((Shr.pl b + Shr.pl d).toNat + 1) a b c d w ha hb hc hd (by have := Shr.pl_nonneg b; have := Shr.pl_nonneg d; omega)

end Go.Proofs.Ytnjgkgnjbmfpfaa
