/- Walks of the share package's small functions: plain, height, sign; and of the reference's. -/
import Derived.Test.YtnjgkgnjbmfpfaaRows
import Derived.Test.YtnjgkgnjbmfpfaaShr
import Derived.Test.YtnjgkgnjbmfpfaaMem
import Derived.WalkKit
import Derived.WalkSpells
import Derived.WalkLawsBesides
namespace Go.Proofs.Ytnjgkgnjbmfpfaa
open Go.RowKit

/-- a share as a value -/
def shv (a b : Int) : Value := .agg #[.int .i64 a, .int .i64 b]
def plv (a b : Int) : Value := .agg #[.int .i64 (Shr.pl a), .int .i64 (Shr.pl b)]
def shT (a b : Int) : Prop := a = b

theorem pl_lt {a : Int} (h : a < 0) : Shr.pl a = 0 := by unfold Shr.pl; omega
theorem pl_ge {a : Int} (h : 0 ≤ a) : Shr.pl a = a := by unfold Shr.pl; omega

set_option maxHeartbeats 400000 in
theorem plain_any (a b : Int) (w : World) :
    Calls Try.prog 35 #[.agg #[.int .i64 a, .int .i64 b]] w fun e w' => e = .returned (.agg #[.int .i64 (Shr.pl a), .int .i64 (Shr.pl b)]) ∧ w' = (w.alloc (.cells #[.int .i64 a, .int .i64 b] 23)).alloc (.cells #[.int .i64 (Shr.pl a), .int .i64 (Shr.pl b)] 23) := by
  go_enter Try.func35, Try.ntmps35
  by_cases h1 : a < 0 <;> by_cases h2 : b < 0
  · go_wp2
    exact bodyPost_ret (v := .agg #[.int .i64 0, .int .i64 0]) (by simp [results, Try.results35, go_sem]) rfl ⟨by rw [pl_lt h1, pl_lt h2], by rw [pl_lt h1, pl_lt h2]⟩
  · go_wp2
    exact bodyPost_ret (v := .agg #[.int .i64 0, .int .i64 b]) (by simp [results, Try.results35, go_sem]) rfl ⟨by rw [pl_lt h1, pl_ge (by omega)], by rw [pl_lt h1, pl_ge (by omega)]⟩
  · go_wp2
    exact bodyPost_ret (v := .agg #[.int .i64 a, .int .i64 0]) (by simp [results, Try.results35, go_sem]) rfl ⟨by rw [pl_lt h2, pl_ge (by omega)], by rw [pl_lt h2, pl_ge (by omega)]⟩
  · go_wp2
    exact bodyPost_ret (v := .agg #[.int .i64 a, .int .i64 b]) (by simp [results, Try.results35, go_sem]) rfl ⟨by rw [pl_ge (by omega), pl_ge (by omega)], by rw [pl_ge (by omega), pl_ge (by omega)]⟩

theorem ht_0 {a b : Int} (h : (a == 0) = true) : Shr.ht a b = 0 := by unfold Shr.ht; rw [if_pos (by simpa using h)]
theorem ht_2 {a b : Int} (h : (a == 0) = false) (h2 : (b == 0) = true) : Shr.ht a b = 2 := by unfold Shr.ht; rw [if_neg (by simpa using h), if_pos (by simpa using h2)]
theorem ht_1 {a b : Int} (h : (a == 0) = false) (h2 : (b == 0) = false) : Shr.ht a b = 1 := by unfold Shr.ht; rw [if_neg (by simpa using h), if_neg (by simpa using h2)]
set_option maxHeartbeats 400000 in
theorem height_any (a b : Int) (w : World) :
    Calls Try.prog 36 #[.agg #[.int .i64 a, .int .i64 b]] w fun e w' => e = .returned (.int .i64 (Shr.ht a b)) ∧ w' = w.alloc (.cells #[.int .i64 a, .int .i64 b] 23) := by
  go_enter Try.func36, Try.ntmps36
  go_wp2
  · go_ret
    exact ⟨ret_int (ht_0 ‹_›).symm, rfl⟩
  · go_ret
    exact ⟨ret_int (ht_2 ‹_› ‹_›).symm, rfl⟩
  · go_ret
    exact ⟨ret_int (ht_1 ‹_› ‹_›).symm, rfl⟩

set_option maxHeartbeats 400000 in
theorem rheight_any (a b : Int) (w : World) :
    Calls Try.prog 48 #[.agg #[.int .i64 a, .int .i64 b]] w fun e w' => e = .returned (.int .i64 (Shr.ht a b)) ∧ w' = w.alloc (.cells #[.int .i64 a, .int .i64 b] 23) := by
  go_enter Try.func48, Try.ntmps48
  go_wp2
  · go_ret
    exact ⟨ret_int (ht_0 ‹_›).symm, rfl⟩
  · go_ret
    exact ⟨ret_int (ht_2 ‹_› ‹_›).symm, rfl⟩
  · go_ret
    exact ⟨ret_int (ht_1 ‹_› ‹_›).symm, rfl⟩

set_option maxHeartbeats 400000 in
theorem sign_any (a b : Int) (w : World) :
    Calls Try.prog 37 #[.int .u64 a, .int .u64 b] w fun e w' => e = .returned (.int .i64 (Shr.sg a b)) ∧ w = w' := by
  go_enter Try.func37, Try.ntmps37
  go_wp2
  · go_ret
    exact ⟨ret_int (Shr.sg_lt ‹_›).symm, rfl⟩
  · go_ret
    exact ⟨ret_int (Shr.sg_gt ‹_›).symm, rfl⟩
  · go_ret
    exact ⟨ret_int (Shr.sg_eq (by omega)).symm, rfl⟩

end Go.Proofs.Ytnjgkgnjbmfpfaa
