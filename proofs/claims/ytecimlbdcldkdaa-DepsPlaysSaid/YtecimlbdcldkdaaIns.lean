/- slices.Insert of one number: laws and walk. -/
import Derived.Test.YtecimlbdcldkdaaRows
import Derived.Test.YtecimlbdcldkdaaMem
import Derived.WalkKit
import Derived.WalkSpells
import Derived.WalkLawsBesides
import Derived.OwnWalk
import Derived.OneCell
import Derived.Laws.AppendOwn
import Derived.Laws.CopyOwn
import Derived.Lib.Overlaps
import Derived.Deep.RegionLaw
import Derived.Deep.QuietTactic
import Derived.Deep.RegionWith
import Derived.BigQuiet
import Derived.Lib.Hide
namespace Go.Proofs.Ytecimlbdcldkdaa
open Go.RowKit

theorem infoInt : (Try.prog.info? 3).map (fun i => (i.zero, i.size, i.bytes)) = some (some (.int .i64 0), 1, 8) := by kernel_rfl

/-- a row of places (it may begin inside its block, it may have room), not below base -/
def FR (w : World) (base : Nat) (v : Value) (l : List Nat) : Prop :=
  (v = .slice none 0 0 ∧ l = []) ∨ ∃ g o cap cs, v = .slice (some ⟨g, o, none⟩) l.length cap ∧ base ≤ g ∧ Bk w g 3 cs ∧ l.length ≤ cap ∧ o + cap ≤ cs.size ∧ cs.size ≤ 9223372036854775807 ∧ ∀ (j x : Nat), l[j]? = some x → cs[o + j]? = some (.int .i64 (x : Int))

section
variable {P : Program} {ops : Array Oper} {rest : List Oper} {o : Oper} {a : Act} {w w' : World} {Q : Exit → Act → World → Prop}
theorem wpList_append_run (hgd : o.guard = none) (s x : Operand) (t tx : TypeId) (ho : o.op = Op.call { callee := Callee.builtin Builtin.append, args := #[s, x], argTypes := #[t, tx] }) (r : Value)
    (hrun : (Builtin.append_ #[t, tx] o.type #[a.eval s, a.eval x]).run P w = .ok r w') (h : wpList P ops Q rest (a.put o.dst r) w') : wpList P ops Q (o :: rest) a w := by
  refine wpList_plain hgd fun K hK' => ?_
  unfold Oper.wp
  simp [execOp, ho, resolve, invoke, builtin, hrun, Result.andThen]
  exact hK' _ _ h
theorem wpList_copy_run (hgd : o.guard = none) (s x : Operand) (t tx : TypeId) (ho : o.op = Op.call { callee := Callee.builtin Builtin.copy, args := #[s, x], argTypes := #[t, tx] }) (r : Value)
    (hrun : (Builtin.copy_ #[t, tx] o.type #[a.eval s, a.eval x]).run P w = .ok r w') (h : wpList P ops Q rest (a.put o.dst r) w') : wpList P ops Q (o :: rest) a w := by
  refine wpList_plain hgd fun K hK' => ?_
  unfold Oper.wp
  simp [execOp, ho, resolve, invoke, builtin, hrun, Result.andThen]
  exact hK' _ _ h
theorem step_copy_run {K : Act → World → Prop} {E : Prop} (hgd : o.guard = none) (s x : Operand) (t tx : TypeId) (ho : o.op = Op.call { callee := Callee.builtin Builtin.copy, args := #[s, x], argTypes := #[t, tx] }) (r : Value)
    (hrun : (Builtin.copy_ #[t, tx] o.type #[a.eval s, a.eval x]).run P w = .ok r w') (h : K (a.put o.dst r) w') : if Region.wanted o (yielded ops a.tmps) = true then Oper.wp P o a w K Q else E := by
  have hw : Region.wanted o (yielded ops a.tmps) = true := by simp [Region.wanted, hgd]
  rw [if_pos hw]
  unfold Oper.wp
  simp [execOp, ho, resolve, invoke, builtin, hrun, Result.andThen]
  exact h
end

/-- append(s[:i], make([]int, k)...) where it must grow -/
theorem run_append_zeros (w : World) (b : Addr) (sLen sCap k : Nat) (olds : List Value) (hlo : olds.length = sLen) (holds : ∀ j v, olds[j]? = some v → w.cell? (b.add j) = some v) (hk : 0 < k) (hk2 : k ≤ 1000000) (hg : sCap < sLen + k) (hs : sLen ≤ 1000000) :
    (Builtin.append_ #[25, 3] 25 #[.slice (some b) sLen sCap, .int .i64 (k : Int)]).run Try.prog w =
      .ok (.slice (some ⟨w.heap.size, 0, none⟩) (sLen + k) (grownCap w (sLen + k) sCap 3))
        (w.drew.alloc (.cells (olds.toArray ++ Builtin.zeroCells #[.int .i64 0] k ++ Builtin.zeroCells #[.int .i64 0] (grownCap w (sLen + k) sCap 3 - (sLen + k))) 3)) := by
  obtain ⟨i, hi, hz, hs1, hb⟩ := info_parts infoInt
  have hn : ¬ (sLen + k ≤ sCap) := by omega
  have h48' : ¬ (281474976710656 < Builtin.nextslicecap (sLen + k) sCap * i.bytes) := by
    rw [hb]
    have := nextslicecap_le (need := sLen + k) (old := sCap) (by omega)
    omega
  have hw : IntKind.i64.wrap (k : Int) = (k : Int) := by simp [IntKind.wrap, IntKind.bits, IntKind.signed]; omega
  have hneg : ¬ ((k : Int) < 0) := by omega
  have hbig : ¬ ((281474976710656 : Int) < (k : Int) * (i.bytes : Int)) := by rw [hb]; omega
  have h0 : k ≠ 0 := by omega
  have hfo := run_firstCells_some (P := Try.prog) w.drew i.size sLen b sLen sCap olds (by rw [hs1, hlo]; omega) (by simpa using holds)
  rw [hs1] at hfo
  have h63' : ¬ (9223372036854775807 < ((sLen : Int) + (k : Int))) := by omega
  simp [Builtin.append_, asInt, asIntOf, run_underlying Try.underlying25, run_underlying Try.underlying3, sizeOf, typeInfo, zeroValue, hi, hz, hs1, hn, h63', h48', hw, hneg, hbig, h0, Question.forced, hfo, newRow, grownCap]
  simp [Value.cells]
end Go.Proofs.Ytecimlbdcldkdaa
