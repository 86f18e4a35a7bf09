/- Two amounts are equal. -/
import Derived.Test.YtnjgkgnjbmfpfaaFr
import Derived.ChangeKeysEq
namespace Go.Proofs.Ytnjgkgnjbmfpfaa
open Go.RowKit

theorem vec_eqd (n : Nat) (a b c d : Int) (w : World) : Sem.run Try.prog (Op.equalIn (n + 2) 28 (.agg #[.int .i64 a, .int .i64 b, .int .i64 c, .int .i64 d]) (.agg #[.int .i64 a, .int .i64 b, .int .i64 c, .int .i64 d])) w = .ok true w := by
  obtain ⟨i, hi, hz, hs, hb⟩ := info_parts infoIntF
  have hc : Try.prog.cellsOf 3 = 1 := by kernel_rfl
  have h1 : ∀ x : Int, Sem.run Try.prog (Op.equalIn (n + 1) 3 (.int .i64 x) (.int .i64 x)) w = .ok true w := fun x => by
    simp [Op.equalIn, run_underlying Try.underlying3]
  rw [run_equalIn_array (w := w) (n + 1) _ _ Try.underlying28 hi, hc]
  simp only [Op.eqItems, List.range, List.range.loop, Sem.run_bind]
  simp [part, Try.isAgg3, h1]
theorem vec_eq (a b c d : Int) (w : World) : Sem.run Try.prog (Op.equalIn 10000 28 (.agg #[.int .i64 a, .int .i64 b, .int .i64 c, .int .i64 d]) (.agg #[.int .i64 a, .int .i64 b, .int .i64 c, .int .i64 d])) w = .ok true w := vec_eqd 9998 a b c d w
end Go.Proofs.Ytnjgkgnjbmfpfaa
