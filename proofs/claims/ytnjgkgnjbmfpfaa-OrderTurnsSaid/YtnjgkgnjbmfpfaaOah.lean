/- The walk of the document's ahead. -/
import Derived.Test.YtnjgkgnjbmfpfaaOhs
namespace Go.Proofs.Ytnjgkgnjbmfpfaa
open Go.RowKit Go.Maps Go.Sort Ot

set_option maxHeartbeats 1000000 in
theorem rahead_any (a b : JD) (r : Bool) (hr : r = true ↔ b.prio < a.prio ∨ (b.prio = a.prio ∧ a.id < b.id)) (w : World) :
    Calls Try.prog 47 #[.agg (wantCells a), .agg (wantCells b)] w fun e w' => e = .returned (.bool r) ∧ Below w.heap.size w w' := by
  unfold wantCells
  obtain ⟨ia, ua, pa, na⟩ := a
  obtain ⟨ib, ub, pb, nb⟩ := b
  simp only at hr
  have HR := Lib.hid hr
  clear hr
  have hB := Lib.hid (((Below.refl w.heap.size w).alloc (Nat.le_refl _) (.cells #[.int .i64 ia, encStr ua, .int .i64 pa, .int .i64 (na 0), .int .i64 (na 1), .int .i64 (na 2), .int .i64 (na 3)] 50)).alloc (by simp) (.cells #[.int .i64 ib, encStr ub, .int .i64 pb, .int .i64 (nb 0), .int .i64 (nb 1), .int .i64 (nb 2), .int .i64 (nb 3)] 50))
  go_enter Try.func47, Try.ntmps47
  by_cases hp : pa = pb
  · subst hp
    have hpp : (pa != pa) = false := by simp
    go_wp2_with fail
    go_ret
    refine ⟨ret_bool ?_, hB.out⟩
    have h := HR.out
    cases r <;> simp at h ⊢ <;> omega
  · have hpp : (pa != pb) = true := by simpa using hp
    have HP := Lib.hid hp
    clear hp
    go_wp2_with fail
    go_ret
    refine ⟨ret_bool ?_, hB.out⟩
    have h := HR.out
    have hp := HP.out
    cases r <;> simp at h ⊢ <;> omega
end Go.Proofs.Ytnjgkgnjbmfpfaa
