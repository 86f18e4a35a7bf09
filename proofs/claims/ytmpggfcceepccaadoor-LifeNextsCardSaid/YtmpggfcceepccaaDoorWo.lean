/- The document's over (an Ending life's end). -/
import Derived.Test.YtmpggfcceepccaaDoorWr
namespace Go.Proofs.YtmpggfcceepccaaDoor
open Go.RowKit

set_option maxHeartbeats 800000 in
theorem refover_any (s a l : Int) (x y : Bool) (hl : l ≤ 9223372036854775807) (q : Lif.Life) (hq : Lif.ended ⟨s, a, l, x, y⟩ = q) (w : World) : Calls Tryd.prog 25 #[.agg #[.int .i64 s, .int .i64 a, .int .i64 l, .bool x, .bool y]] w fun e w' =>
    e = .returned (.agg #[.int .i64 q.st, .int .i64 q.at_, .int .i64 q.lf, .bool q.wall, .bool q.stop]) ∧ Below w.heap.size w w' := by
  cases y
  · cases x
    · by_cases c : 0 < l
      · obtain rfl : q = ⟨1, a, l - 1, false, false⟩ := by rw [← hq]; simp [Lif.ended, c]
        go_enter Tryd.func25, Tryd.ntmps25
        go_wp2_with fail
        exact bodyPost_ret (v := .agg #[.int .i64 1, .int .i64 a, .int .i64 (l - 1), .bool false, .bool false]) (by simp [results, Tryd.results25, go_sem, *]) rfl ⟨rfl, below3' _ _ _ _⟩
      · obtain rfl : q = ⟨7, a, l, false, false⟩ := by rw [← hq]; simp [Lif.ended, c]
        go_enter Tryd.func25, Tryd.ntmps25
        go_wp2_with fail
        exact bodyPost_ret (v := .agg #[.int .i64 7, .int .i64 a, .int .i64 l, .bool false, .bool false]) (by simp [results, Tryd.results25, go_sem, *]) rfl ⟨rfl, below3' _ _ _ _⟩
    · obtain rfl : q = ⟨6, a, l, false, false⟩ := by rw [← hq]; simp [Lif.ended]
      go_enter Tryd.func25, Tryd.ntmps25
      go_wp2_with fail
      exact bodyPost_ret (v := .agg #[.int .i64 6, .int .i64 a, .int .i64 l, .bool false, .bool false]) (by simp [results, Tryd.results25, go_sem, *]) rfl ⟨rfl, below3' _ _ _ _⟩
  · obtain rfl : q = ⟨8, a, l, false, false⟩ := by rw [← hq]; simp [Lif.ended]
    go_enter Tryd.func25, Tryd.ntmps25
    go_wp2_with fail
    exact bodyPost_ret (v := .agg #[.int .i64 8, .int .i64 a, .int .i64 l, .bool false, .bool false]) (by simp [results, Tryd.results25, go_sem, *]) rfl ⟨rfl, below3' _ _ _ _⟩

end Go.Proofs.YtmpggfcceepccaaDoor
