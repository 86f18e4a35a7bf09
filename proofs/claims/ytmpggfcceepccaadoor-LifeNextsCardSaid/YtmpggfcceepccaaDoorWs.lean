/- The walk of the document's Right, where a number is out of its range. -/
import Derived.Test.YtmpggfcceepccaaDoorWd
namespace Go.Proofs.YtmpggfcceepccaaDoor
open Go.RowKit
set_option maxRecDepth 100000 in
set_option maxHeartbeats 2000000 in
theorem refRight_no (s a l : Int) (x y : Bool) (hf : false = Lif.right ⟨s, a, l, x, y⟩) (hc : a < 0 ∨ l < 0 ∨ 6 < a ∨ 6 < l) (w : World) : Calls Tryd.prog 14 #[.agg #[.int .i64 s, .int .i64 a, .int .i64 l, .bool x, .bool y]] w fun e w' => e = .returned (.bool (Lif.right ⟨s, a, l, x, y⟩)) ∧ Below w.heap.size w w' := by
  rw [← hf]
  clear hf
  rcases hc with h | h | h | h
  all_goals
    go_enter Tryd.func14, Tryd.ntmps14
    go_wp2_with fail
  all_goals
    go_ret
    exact ⟨rfl, below1 _ _⟩
end Go.Proofs.YtmpggfcceepccaaDoor
