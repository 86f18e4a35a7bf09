/-
  No cell of these rows narrows 'for every input' (looked for: loops, veiled, ifaces, maps, wideKeys, modest, calm, conditions, laid).
  DERIVED. THE GIVEN ROWS OF THIS SEAT. 7 by the template 'for every input the law returns true; each argument reads behind the call as it read before'; 0 by the template 'total and deterministic' (their statements: YtecimlbdcldkdaaTotals.lean).
  GIVEN WITH THE SEED: the statements are not yours to turn. If you find one false, say at which input.
  Laid BY PROGRAM, IN A SANDBOX (cutbox-rows.mjs): the forced cells as the released guide's own fill.sh prints them over the translation a4d7642d20601b21… (all of the seat's roots in one cut). By AI agents, Wed Nov 11 2026. No macro, syntax, notation, axiom, sorry.
-/
import Derived.Test.YtecimlbdcldkdaaChecked
import GoSem.Claim
import GoSem.ClaimJoined
import GoSem.ClaimMapViews
import Derived.JoinedTies
import Derived.KernelRfl
namespace Go.Proofs.Ytecimlbdcldkdaa
/- THE CELL 'sum', in the pinned program and in every row, IS THE sha256 OF THE DUMP (.gsa) THAT YtecimlbdcldkdaaProg.lean LOADS. Nothing in Lean hashes anything: it is a label: what it is worth is what the hold of that sum in a sandbox is worth. -/
noncomputable def Try.pinned : Pinned := { name := "ytecimlbdcldkdaa", sum := "a4d7642d20601b21cd30ba84e01eefed91776bb932ee6394e0faa5e8ce6a1075", checked := Try.checked }
namespace Rows
def none {H : Type} : Left H := { results := [], args := [] }

/-- 'corveelaw09.DepsOrders': WHATEVER THE INPUT: true; the input reads as it did. -/
def depsOrdersSpec : ChangeSpec := { name := "depsOrders", fn := fun _ => fun
  | [d] => { results := [.lit (.bool true)], args := [d] }
  | _ => none }
def depsOrdersRow : OpenClaim := { program := "ytecimlbdcldkdaa", sum := "a4d7642d20601b21cd30ba84e01eefed91776bb932ee6394e0faa5e8ce6a1075", func := "corvee/corveelaw09.DepsOrders", spec := "depsOrders", inPlace := ["slices.overlaps[int]"], recurses := true, apart := false }
def DepsOrdersSaid : Prop := depsOrdersRow.holds Try.pinned (OpenSpec.ofChange depsOrdersSpec)

/-- ITS FALSE NEIGHBOUR: 'it returns false'. Refute it at one input. -/
def depsOrdersWrong : ChangeSpec := { name := "depsOrders", fn := fun _ => fun
  | [d] => { results := [.lit (.bool false)], args := [d] }
  | _ => none }
def DepsOrdersWrongFalsely : Prop := depsOrdersRow.holds Try.pinned (OpenSpec.ofChange depsOrdersWrong)

/-- 'corveelaw09.DepsCycles': WHATEVER THE INPUT: true; the input reads as it did. -/
def depsCyclesSpec : ChangeSpec := { name := "depsCycles", fn := fun _ => fun
  | [d] => { results := [.lit (.bool true)], args := [d] }
  | _ => none }
def depsCyclesRow : OpenClaim := { program := "ytecimlbdcldkdaa", sum := "a4d7642d20601b21cd30ba84e01eefed91776bb932ee6394e0faa5e8ce6a1075", func := "corvee/corveelaw09.DepsCycles", spec := "depsCycles", inPlace := ["slices.overlaps[int]"], recurses := true, apart := false }
def DepsCyclesSaid : Prop := depsCyclesRow.holds Try.pinned (OpenSpec.ofChange depsCyclesSpec)

/-- ITS FALSE NEIGHBOUR: 'it returns false'. Refute it at one input. -/
def depsCyclesWrong : ChangeSpec := { name := "depsCycles", fn := fun _ => fun
  | [d] => { results := [.lit (.bool false)], args := [d] }
  | _ => none }
def DepsCyclesWrongFalsely : Prop := depsCyclesRow.holds Try.pinned (OpenSpec.ofChange depsCyclesWrong)

/-- 'corveelaw09.DepsResolves': WHATEVER THE INPUT: true; the input reads as it did. -/
def depsResolvesSpec : ChangeSpec := { name := "depsResolves", fn := fun _ => fun
  | [d1, d2, d3] => { results := [.lit (.bool true)], args := [d1, d2, d3] }
  | _ => none }
def depsResolvesRow : OpenClaim := { program := "ytecimlbdcldkdaa", sum := "a4d7642d20601b21cd30ba84e01eefed91776bb932ee6394e0faa5e8ce6a1075", func := "corvee/corveelaw09.DepsResolves", spec := "depsResolves", inPlace := ["slices.overlaps[int]"], recurses := true, apart := false }
def DepsResolvesSaid : Prop := depsResolvesRow.holds Try.pinned (OpenSpec.ofChange depsResolvesSpec)

/-- ITS FALSE NEIGHBOUR: 'it returns false'. Refute it at one input. -/
def depsResolvesWrong : ChangeSpec := { name := "depsResolves", fn := fun _ => fun
  | [d1, d2, d3] => { results := [.lit (.bool false)], args := [d1, d2, d3] }
  | _ => none }
def DepsResolvesWrongFalsely : Prop := depsResolvesRow.holds Try.pinned (OpenSpec.ofChange depsResolvesWrong)

/-- 'corveelaw09.DepsEnds': WHATEVER THE INPUT: true; the input reads as it did. -/
def depsEndsSpec : ChangeSpec := { name := "depsEnds", fn := fun _ => fun
  | [d] => { results := [.lit (.bool true)], args := [d] }
  | _ => none }
def depsEndsRow : OpenClaim := { program := "ytecimlbdcldkdaa", sum := "a4d7642d20601b21cd30ba84e01eefed91776bb932ee6394e0faa5e8ce6a1075", func := "corvee/corveelaw09.DepsEnds", spec := "depsEnds", inPlace := ["slices.overlaps[int]"], unfollowed := true, recurses := true, apart := false }
def DepsEndsSaid : Prop := depsEndsRow.holds Try.pinned (OpenSpec.ofChange depsEndsSpec)

/-- ITS FALSE NEIGHBOUR: 'it returns false'. Refute it at one input. -/
def depsEndsWrong : ChangeSpec := { name := "depsEnds", fn := fun _ => fun
  | [d] => { results := [.lit (.bool false)], args := [d] }
  | _ => none }
def DepsEndsWrongFalsely : Prop := depsEndsRow.holds Try.pinned (OpenSpec.ofChange depsEndsWrong)

/-- 'corveelaw09.DepsDooms': WHATEVER THE INPUT: true; the input reads as it did. -/
def depsDoomsSpec : ChangeSpec := { name := "depsDooms", fn := fun _ => fun
  | [d1, d2] => { results := [.lit (.bool true)], args := [d1, d2] }
  | _ => none }
def depsDoomsRow : OpenClaim := { program := "ytecimlbdcldkdaa", sum := "a4d7642d20601b21cd30ba84e01eefed91776bb932ee6394e0faa5e8ce6a1075", func := "corvee/corveelaw09.DepsDooms", spec := "depsDooms", inPlace := ["slices.overlaps[int]"], unfollowed := true, recurses := true, apart := false }
def DepsDoomsSaid : Prop := depsDoomsRow.holds Try.pinned (OpenSpec.ofChange depsDoomsSpec)

/-- ITS FALSE NEIGHBOUR: 'it returns false'. Refute it at one input. -/
def depsDoomsWrong : ChangeSpec := { name := "depsDooms", fn := fun _ => fun
  | [d1, d2] => { results := [.lit (.bool false)], args := [d1, d2] }
  | _ => none }
def DepsDoomsWrongFalsely : Prop := depsDoomsRow.holds Try.pinned (OpenSpec.ofChange depsDoomsWrong)

/-- 'corveelaw09.DepsPlays': WHATEVER THE INPUT: true; the input reads as it did. -/
def depsPlaysSpec : ChangeSpec := { name := "depsPlays", fn := fun _ => fun
  | [d] => { results := [.lit (.bool true)], args := [d] }
  | _ => none }
def depsPlaysRow : OpenClaim := { program := "ytecimlbdcldkdaa", sum := "a4d7642d20601b21cd30ba84e01eefed91776bb932ee6394e0faa5e8ce6a1075", func := "corvee/corveelaw09.DepsPlays", spec := "depsPlays", inPlace := ["slices.overlaps[int]"], unfollowed := true, recurses := true, apart := false }
def DepsPlaysSaid : Prop := depsPlaysRow.holds Try.pinned (OpenSpec.ofChange depsPlaysSpec)

/-- ITS FALSE NEIGHBOUR: 'it returns false'. Refute it at one input. -/
def depsPlaysWrong : ChangeSpec := { name := "depsPlays", fn := fun _ => fun
  | [d] => { results := [.lit (.bool false)], args := [d] }
  | _ => none }
def DepsPlaysWrongFalsely : Prop := depsPlaysRow.holds Try.pinned (OpenSpec.ofChange depsPlaysWrong)

/-- 'corveelaw09.DepsNone': WHATEVER THE INPUT: true; the input reads as it did. -/
def depsNoneSpec : ChangeSpec := { name := "depsNone", fn := fun _ => fun
  | [d1, d2] => { results := [.lit (.bool true)], args := [d1, d2] }
  | _ => none }
def depsNoneRow : OpenClaim := { program := "ytecimlbdcldkdaa", sum := "a4d7642d20601b21cd30ba84e01eefed91776bb932ee6394e0faa5e8ce6a1075", func := "corvee/corveelaw09.DepsNone", spec := "depsNone", inPlace := ["slices.overlaps[int]"], unfollowed := true, recurses := true, apart := false }
def DepsNoneSaid : Prop := depsNoneRow.holds Try.pinned (OpenSpec.ofChange depsNoneSpec)

/-- ITS FALSE NEIGHBOUR: 'it returns false'. Refute it at one input. -/
def depsNoneWrong : ChangeSpec := { name := "depsNone", fn := fun _ => fun
  | [d1, d2] => { results := [.lit (.bool false)], args := [d1, d2] }
  | _ => none }
def DepsNoneWrongFalsely : Prop := depsNoneRow.holds Try.pinned (OpenSpec.ofChange depsNoneWrong)

/- THE SECOND FORM. 'bulk': how many values and letters a reading holds, each counted each time it is reached (what is shared counts as often as it is met; a slice's spare places count too). A statement '..UptoSaid' is the law's where the arguments, and the package variables that the reading takes, are together of bulk at most 1048576: NARROWER than '..Said'. Prove '..Said' where nothing that the law and all that it calls make is longer than what came in: it says more and counts as full. Else prove '..UptoSaid'. A law counts once. -/
mutual
def uptoBulk {H : Type} : DataW H → Nat
  | .lit (.string bytes) => bytes.length + 1
  | .lit _ => 1
  | .nil => 1
  | .ptr d => uptoBulk d + 1
  | .slice elems spare => uptoBulkAll elems + uptoBulkAll spare + 1
  | .agg parts => uptoBulkAll parts + 1
  | .iface _ d => uptoBulk d + 1
  | .map entries => uptoBulkEntries entries + 1
  | .held _ => 1
def uptoBulkAll {H : Type} : List (DataW H) → Nat
  | [] => 0
  | d :: r => uptoBulk d + uptoBulkAll r
def uptoBulkEntries {H : Type} : List (Lit × DataW H) → Nat
  | [] => 0
  | x :: r => uptoBulkEntry x + uptoBulkEntries r
def uptoBulkEntry {H : Type} : Lit × DataW H → Nat
  | (.string bytes, d) => bytes.length + uptoBulk d + 1
  | (_, d) => uptoBulk d + 1
 end
def uptoSmall : (H : Type) → List (DataW H) → Bool := fun _ ds => decide (uptoBulkAll ds ≤ 1048576)
def OpenSpec.upto (s : _root_.Go.ChangeSpec) : _root_.Go.OpenSpec := { _root_.Go.OpenSpec.ofChange s with cond := some uptoSmall }

/-- 'corveelaw09.DepsOrders', WHERE WHAT IT READS IS OF BULK AT MOST 1048576: true; the input reads as it did. -/
def depsOrdersUptoRow : OpenClaim := { program := "ytecimlbdcldkdaa", sum := "a4d7642d20601b21cd30ba84e01eefed91776bb932ee6394e0faa5e8ce6a1075", func := "corvee/corveelaw09.DepsOrders", spec := "depsOrders", inPlace := ["slices.overlaps[int]"], recurses := true, apart := false, narrowed := true }
def DepsOrdersUptoSaid : Prop := depsOrdersUptoRow.holds Try.pinned (OpenSpec.upto depsOrdersSpec)

/-- 'corveelaw09.DepsCycles', WHERE WHAT IT READS IS OF BULK AT MOST 1048576: true; the input reads as it did. -/
def depsCyclesUptoRow : OpenClaim := { program := "ytecimlbdcldkdaa", sum := "a4d7642d20601b21cd30ba84e01eefed91776bb932ee6394e0faa5e8ce6a1075", func := "corvee/corveelaw09.DepsCycles", spec := "depsCycles", inPlace := ["slices.overlaps[int]"], recurses := true, apart := false, narrowed := true }
def DepsCyclesUptoSaid : Prop := depsCyclesUptoRow.holds Try.pinned (OpenSpec.upto depsCyclesSpec)

/-- 'corveelaw09.DepsResolves', WHERE WHAT IT READS IS OF BULK AT MOST 1048576: true; the input reads as it did. -/
def depsResolvesUptoRow : OpenClaim := { program := "ytecimlbdcldkdaa", sum := "a4d7642d20601b21cd30ba84e01eefed91776bb932ee6394e0faa5e8ce6a1075", func := "corvee/corveelaw09.DepsResolves", spec := "depsResolves", inPlace := ["slices.overlaps[int]"], recurses := true, apart := false, narrowed := true }
def DepsResolvesUptoSaid : Prop := depsResolvesUptoRow.holds Try.pinned (OpenSpec.upto depsResolvesSpec)

/-- 'corveelaw09.DepsEnds', WHERE WHAT IT READS IS OF BULK AT MOST 1048576: true; the input reads as it did. -/
def depsEndsUptoRow : OpenClaim := { program := "ytecimlbdcldkdaa", sum := "a4d7642d20601b21cd30ba84e01eefed91776bb932ee6394e0faa5e8ce6a1075", func := "corvee/corveelaw09.DepsEnds", spec := "depsEnds", inPlace := ["slices.overlaps[int]"], unfollowed := true, recurses := true, apart := false, narrowed := true }
def DepsEndsUptoSaid : Prop := depsEndsUptoRow.holds Try.pinned (OpenSpec.upto depsEndsSpec)

/-- 'corveelaw09.DepsDooms', WHERE WHAT IT READS IS OF BULK AT MOST 1048576: true; the input reads as it did. -/
def depsDoomsUptoRow : OpenClaim := { program := "ytecimlbdcldkdaa", sum := "a4d7642d20601b21cd30ba84e01eefed91776bb932ee6394e0faa5e8ce6a1075", func := "corvee/corveelaw09.DepsDooms", spec := "depsDooms", inPlace := ["slices.overlaps[int]"], unfollowed := true, recurses := true, apart := false, narrowed := true }
def DepsDoomsUptoSaid : Prop := depsDoomsUptoRow.holds Try.pinned (OpenSpec.upto depsDoomsSpec)

/-- 'corveelaw09.DepsPlays', WHERE WHAT IT READS IS OF BULK AT MOST 1048576: true; the input reads as it did. -/
def depsPlaysUptoRow : OpenClaim := { program := "ytecimlbdcldkdaa", sum := "a4d7642d20601b21cd30ba84e01eefed91776bb932ee6394e0faa5e8ce6a1075", func := "corvee/corveelaw09.DepsPlays", spec := "depsPlays", inPlace := ["slices.overlaps[int]"], unfollowed := true, recurses := true, apart := false, narrowed := true }
def DepsPlaysUptoSaid : Prop := depsPlaysUptoRow.holds Try.pinned (OpenSpec.upto depsPlaysSpec)

/-- 'corveelaw09.DepsNone', WHERE WHAT IT READS IS OF BULK AT MOST 1048576: true; the input reads as it did. -/
def depsNoneUptoRow : OpenClaim := { program := "ytecimlbdcldkdaa", sum := "a4d7642d20601b21cd30ba84e01eefed91776bb932ee6394e0faa5e8ce6a1075", func := "corvee/corveelaw09.DepsNone", spec := "depsNone", inPlace := ["slices.overlaps[int]"], unfollowed := true, recurses := true, apart := false, narrowed := true }
def DepsNoneUptoSaid : Prop := depsNoneUptoRow.holds Try.pinned (OpenSpec.upto depsNoneSpec)

end Rows
end Go.Proofs.Ytecimlbdcldkdaa
