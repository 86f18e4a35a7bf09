/-
  No cell of these rows narrows 'for every input' (looked for: loops, veiled, ifaces, maps, wideKeys, modest, calm, conditions, laid).
  DERIVED. THE GIVEN ROWS OF THIS SEAT. 13 by the template 'for every input the law returns true; each argument reads behind the call as it read before'; 0 by the template 'total and deterministic' (their statements: YtnjgkgnjbmfpfaaTotals.lean).
  GIVEN WITH THE SEED: the statements are not yours to turn. If you find one false, say at which input.
  Laid BY PROGRAM, IN A SANDBOX (cutbox-rows.mjs): the forced cells as the released guide's own fill.sh prints them over the translation 9d01fb66f6a9b155… (all of the seat's roots in one cut). By AI agents, Wed Nov 11 2026. No macro, syntax, notation, axiom, sorry.
-/
import Derived.Test.YtnjgkgnjbmfpfaaChecked
import GoSem.Claim
import GoSem.ClaimJoined
import GoSem.ClaimMapViews
import Derived.JoinedTies
import Derived.KernelRfl
namespace Go.Proofs.Ytnjgkgnjbmfpfaa
/- THE CELL 'sum', in the pinned program and in every row, IS THE sha256 OF THE DUMP (.gsa) THAT YtnjgkgnjbmfpfaaProg.lean LOADS. Nothing in Lean hashes anything: it is a label: what it is worth is what the hold of that sum in a sandbox is worth. -/
noncomputable def Try.pinned : Pinned := { name := "ytnjgkgnjbmfpfaa", sum := "9d01fb66f6a9b1553c32e6b03480d74f875fe1b3575b4a656cbb33143870dea5", checked := Try.checked }
namespace Rows
def none {H : Type} : Left H := { results := [], args := [] }

/-- 'corveelaw04.ShareCompares': WHATEVER THE INPUT: true; the input reads as it did. -/
def shareComparesSpec : ChangeSpec := { name := "shareCompares", fn := fun _ => fun
  | [d1, d2] => { results := [.lit (.bool true)], args := [d1, d2] }
  | _ => none }
def shareComparesRow : OpenClaim := { program := "ytnjgkgnjbmfpfaa", sum := "9d01fb66f6a9b1553c32e6b03480d74f875fe1b3575b4a656cbb33143870dea5", func := "corvee/corveelaw04.ShareCompares", spec := "shareCompares", recurses := true, apart := false }
def ShareComparesSaid : Prop := shareComparesRow.holds Try.pinned (OpenSpec.ofChange shareComparesSpec)

/-- ITS FALSE NEIGHBOUR: 'it returns false'. Refute it at one input. -/
def shareComparesWrong : ChangeSpec := { name := "shareCompares", fn := fun _ => fun
  | [d1, d2] => { results := [.lit (.bool false)], args := [d1, d2] }
  | _ => none }
def ShareComparesWrongFalsely : Prop := shareComparesRow.holds Try.pinned (OpenSpec.ofChange shareComparesWrong)

/-- 'corveelaw04.ShareDominates': WHATEVER THE INPUT: true; the input reads as it did. -/
def shareDominatesSpec : ChangeSpec := { name := "shareDominates", fn := fun _ => fun
  | [d1, d2] => { results := [.lit (.bool true)], args := [d1, d2] }
  | _ => none }
def shareDominatesRow : OpenClaim := { program := "ytnjgkgnjbmfpfaa", sum := "9d01fb66f6a9b1553c32e6b03480d74f875fe1b3575b4a656cbb33143870dea5", func := "corvee/corveelaw04.ShareDominates", spec := "shareDominates", recurses := true, apart := false }
def ShareDominatesSaid : Prop := shareDominatesRow.holds Try.pinned (OpenSpec.ofChange shareDominatesSpec)

/-- ITS FALSE NEIGHBOUR: 'it returns false'. Refute it at one input. -/
def shareDominatesWrong : ChangeSpec := { name := "shareDominates", fn := fun _ => fun
  | [d1, d2] => { results := [.lit (.bool false)], args := [d1, d2] }
  | _ => none }
def ShareDominatesWrongFalsely : Prop := shareDominatesRow.holds Try.pinned (OpenSpec.ofChange shareDominatesWrong)

/-- 'corveelaw04.ShareLeast': WHATEVER THE INPUT: true; the input reads as it did. -/
def shareLeastSpec : ChangeSpec := { name := "shareLeast", fn := fun _ => fun
  | [d] => { results := [.lit (.bool true)], args := [d] }
  | _ => none }
def shareLeastRow : OpenClaim := { program := "ytnjgkgnjbmfpfaa", sum := "9d01fb66f6a9b1553c32e6b03480d74f875fe1b3575b4a656cbb33143870dea5", func := "corvee/corveelaw04.ShareLeast", spec := "shareLeast", apart := false }
def ShareLeastSaid : Prop := shareLeastRow.holds Try.pinned (OpenSpec.ofChange shareLeastSpec)

/-- ITS FALSE NEIGHBOUR: 'it returns false'. Refute it at one input. -/
def shareLeastWrong : ChangeSpec := { name := "shareLeast", fn := fun _ => fun
  | [d] => { results := [.lit (.bool false)], args := [d] }
  | _ => none }
def ShareLeastWrongFalsely : Prop := shareLeastRow.holds Try.pinned (OpenSpec.ofChange shareLeastWrong)

/-- 'corveelaw04.ShareOrders': WHATEVER THE INPUT: true; the input reads as it did. -/
def shareOrdersSpec : ChangeSpec := { name := "shareOrders", fn := fun _ => fun
  | [d1, d2, d3] => { results := [.lit (.bool true)], args := [d1, d2, d3] }
  | _ => none }
def shareOrdersRow : OpenClaim := { program := "ytnjgkgnjbmfpfaa", sum := "9d01fb66f6a9b1553c32e6b03480d74f875fe1b3575b4a656cbb33143870dea5", func := "corvee/corveelaw04.ShareOrders", spec := "shareOrders", apart := false }
def ShareOrdersSaid : Prop := shareOrdersRow.holds Try.pinned (OpenSpec.ofChange shareOrdersSpec)

/-- ITS FALSE NEIGHBOUR: 'it returns false'. Refute it at one input. -/
def shareOrdersWrong : ChangeSpec := { name := "shareOrders", fn := fun _ => fun
  | [d1, d2, d3] => { results := [.lit (.bool false)], args := [d1, d2, d3] }
  | _ => none }
def ShareOrdersWrongFalsely : Prop := shareOrdersRow.holds Try.pinned (OpenSpec.ofChange shareOrdersWrong)

/-- 'corveelaw04.ShareGrows': WHATEVER THE INPUT: true; the input reads as it did. -/
def shareGrowsSpec : ChangeSpec := { name := "shareGrows", fn := fun _ => fun
  | [d1, d2, d3] => { results := [.lit (.bool true)], args := [d1, d2, d3] }
  | _ => none }
def shareGrowsRow : OpenClaim := { program := "ytnjgkgnjbmfpfaa", sum := "9d01fb66f6a9b1553c32e6b03480d74f875fe1b3575b4a656cbb33143870dea5", func := "corvee/corveelaw04.ShareGrows", spec := "shareGrows", apart := false }
def ShareGrowsSaid : Prop := shareGrowsRow.holds Try.pinned (OpenSpec.ofChange shareGrowsSpec)

/-- ITS FALSE NEIGHBOUR: 'it returns false'. Refute it at one input. -/
def shareGrowsWrong : ChangeSpec := { name := "shareGrows", fn := fun _ => fun
  | [d1, d2, d3] => { results := [.lit (.bool false)], args := [d1, d2, d3] }
  | _ => none }
def ShareGrowsWrongFalsely : Prop := shareGrowsRow.holds Try.pinned (OpenSpec.ofChange shareGrowsWrong)

/-- 'corveelaw04.ShareLowest': WHATEVER THE INPUT: true; the input reads as it did. -/
def shareLowestSpec : ChangeSpec := { name := "shareLowest", fn := fun _ => fun
  | [d] => { results := [.lit (.bool true)], args := [d] }
  | _ => none }
def shareLowestRow : OpenClaim := { program := "ytnjgkgnjbmfpfaa", sum := "9d01fb66f6a9b1553c32e6b03480d74f875fe1b3575b4a656cbb33143870dea5", func := "corvee/corveelaw04.ShareLowest", spec := "shareLowest", apart := false }
def ShareLowestSaid : Prop := shareLowestRow.holds Try.pinned (OpenSpec.ofChange shareLowestSpec)

/-- ITS FALSE NEIGHBOUR: 'it returns false'. Refute it at one input. -/
def shareLowestWrong : ChangeSpec := { name := "shareLowest", fn := fun _ => fun
  | [d] => { results := [.lit (.bool false)], args := [d] }
  | _ => none }
def ShareLowestWrongFalsely : Prop := shareLowestRow.holds Try.pinned (OpenSpec.ofChange shareLowestWrong)

/-- 'corveelaw04.ShareLadders': WHATEVER THE INPUT: true; the input reads as it did. -/
def shareLaddersSpec : ChangeSpec := { name := "shareLadders", fn := fun _ => fun
  | [d1, d2] => { results := [.lit (.bool true)], args := [d1, d2] }
  | _ => none }
def shareLaddersRow : OpenClaim := { program := "ytnjgkgnjbmfpfaa", sum := "9d01fb66f6a9b1553c32e6b03480d74f875fe1b3575b4a656cbb33143870dea5", func := "corvee/corveelaw04.ShareLadders", spec := "shareLadders", unfollowed := true, recurses := true, apart := false }
def ShareLaddersSaid : Prop := shareLaddersRow.holds Try.pinned (OpenSpec.ofChange shareLaddersSpec)

/-- ITS FALSE NEIGHBOUR: 'it returns false'. Refute it at one input. -/
def shareLaddersWrong : ChangeSpec := { name := "shareLadders", fn := fun _ => fun
  | [d1, d2] => { results := [.lit (.bool false)], args := [d1, d2] }
  | _ => none }
def ShareLaddersWrongFalsely : Prop := shareLaddersRow.holds Try.pinned (OpenSpec.ofChange shareLaddersWrong)

/-- 'corveelaw11.OrderPlus': WHATEVER THE INPUT: true; the input reads as it did. -/
def orderPlusSpec : ChangeSpec := { name := "orderPlus", fn := fun _ => fun
  | [d1, d2, d3] => { results := [.lit (.bool true)], args := [d1, d2, d3] }
  | _ => none }
def orderPlusRow : OpenClaim := { program := "ytnjgkgnjbmfpfaa", sum := "9d01fb66f6a9b1553c32e6b03480d74f875fe1b3575b4a656cbb33143870dea5", func := "corvee/corveelaw11.OrderPlus", spec := "orderPlus", unfollowed := true, recurses := true, apart := false }
def OrderPlusSaid : Prop := orderPlusRow.holds Try.pinned (OpenSpec.ofChange orderPlusSpec)

/-- ITS FALSE NEIGHBOUR: 'it returns false'. Refute it at one input. -/
def orderPlusWrong : ChangeSpec := { name := "orderPlus", fn := fun _ => fun
  | [d1, d2, d3] => { results := [.lit (.bool false)], args := [d1, d2, d3] }
  | _ => none }
def OrderPlusWrongFalsely : Prop := orderPlusRow.holds Try.pinned (OpenSpec.ofChange orderPlusWrong)

/-- 'corveelaw11.OrderWhole': WHATEVER THE INPUT: true; the input reads as it did. -/
def orderWholeSpec : ChangeSpec := { name := "orderWhole", fn := fun _ => fun
  | [d1, d2, d3] => { results := [.lit (.bool true)], args := [d1, d2, d3] }
  | _ => none }
def orderWholeRow : OpenClaim := { program := "ytnjgkgnjbmfpfaa", sum := "9d01fb66f6a9b1553c32e6b03480d74f875fe1b3575b4a656cbb33143870dea5", func := "corvee/corveelaw11.OrderWhole", spec := "orderWhole", unfollowed := true, recurses := true, apart := false }
def OrderWholeSaid : Prop := orderWholeRow.holds Try.pinned (OpenSpec.ofChange orderWholeSpec)

/-- ITS FALSE NEIGHBOUR: 'it returns false'. Refute it at one input. -/
def orderWholeWrong : ChangeSpec := { name := "orderWhole", fn := fun _ => fun
  | [d1, d2, d3] => { results := [.lit (.bool false)], args := [d1, d2, d3] }
  | _ => none }
def OrderWholeWrongFalsely : Prop := orderWholeRow.holds Try.pinned (OpenSpec.ofChange orderWholeWrong)

/-- 'corveelaw11.OrderFair': WHATEVER THE INPUT: true; the input reads as it did. -/
def orderFairSpec : ChangeSpec := { name := "orderFair", fn := fun _ => fun
  | [d1, d2, d3] => { results := [.lit (.bool true)], args := [d1, d2, d3] }
  | _ => none }
def orderFairRow : OpenClaim := { program := "ytnjgkgnjbmfpfaa", sum := "9d01fb66f6a9b1553c32e6b03480d74f875fe1b3575b4a656cbb33143870dea5", func := "corvee/corveelaw11.OrderFair", spec := "orderFair", unfollowed := true, recurses := true, apart := false }
def OrderFairSaid : Prop := orderFairRow.holds Try.pinned (OpenSpec.ofChange orderFairSpec)

/-- ITS FALSE NEIGHBOUR: 'it returns false'. Refute it at one input. -/
def orderFairWrong : ChangeSpec := { name := "orderFair", fn := fun _ => fun
  | [d1, d2, d3] => { results := [.lit (.bool false)], args := [d1, d2, d3] }
  | _ => none }
def OrderFairWrongFalsely : Prop := orderFairRow.holds Try.pinned (OpenSpec.ofChange orderFairWrong)

/-- 'corveelaw11.OrderTurned': WHATEVER THE INPUT: true; the input reads as it did. -/
def orderTurnedSpec : ChangeSpec := { name := "orderTurned", fn := fun _ => fun
  | [d1, d2, d3] => { results := [.lit (.bool true)], args := [d1, d2, d3] }
  | _ => none }
def orderTurnedRow : OpenClaim := { program := "ytnjgkgnjbmfpfaa", sum := "9d01fb66f6a9b1553c32e6b03480d74f875fe1b3575b4a656cbb33143870dea5", func := "corvee/corveelaw11.OrderTurned", spec := "orderTurned", unfollowed := true, recurses := true, apart := false }
def OrderTurnedSaid : Prop := orderTurnedRow.holds Try.pinned (OpenSpec.ofChange orderTurnedSpec)

/-- ITS FALSE NEIGHBOUR: 'it returns false'. Refute it at one input. -/
def orderTurnedWrong : ChangeSpec := { name := "orderTurned", fn := fun _ => fun
  | [d1, d2, d3] => { results := [.lit (.bool false)], args := [d1, d2, d3] }
  | _ => none }
def OrderTurnedWrongFalsely : Prop := orderTurnedRow.holds Try.pinned (OpenSpec.ofChange orderTurnedWrong)

/-- 'corveelaw11.OrderTurns': WHATEVER THE INPUT: true; the input reads as it did. -/
def orderTurnsSpec : ChangeSpec := { name := "orderTurns", fn := fun _ => fun
  | [d1, d2, d3] => { results := [.lit (.bool true)], args := [d1, d2, d3] }
  | _ => none }
def orderTurnsRow : OpenClaim := { program := "ytnjgkgnjbmfpfaa", sum := "9d01fb66f6a9b1553c32e6b03480d74f875fe1b3575b4a656cbb33143870dea5", func := "corvee/corveelaw11.OrderTurns", spec := "orderTurns", unfollowed := true, recurses := true, apart := false }
def OrderTurnsSaid : Prop := orderTurnsRow.holds Try.pinned (OpenSpec.ofChange orderTurnsSpec)

/-- ITS FALSE NEIGHBOUR: 'it returns false'. Refute it at one input. -/
def orderTurnsWrong : ChangeSpec := { name := "orderTurns", fn := fun _ => fun
  | [d1, d2, d3] => { results := [.lit (.bool false)], args := [d1, d2, d3] }
  | _ => none }
def OrderTurnsWrongFalsely : Prop := orderTurnsRow.holds Try.pinned (OpenSpec.ofChange orderTurnsWrong)

/-- 'corveelaw11.OrderBegins': WHATEVER THE INPUT: true; the input reads as it did. -/
def orderBeginsSpec : ChangeSpec := { name := "orderBegins", fn := fun _ => fun
  | [d1, d2, d3] => { results := [.lit (.bool true)], args := [d1, d2, d3] }
  | _ => none }
def orderBeginsRow : OpenClaim := { program := "ytnjgkgnjbmfpfaa", sum := "9d01fb66f6a9b1553c32e6b03480d74f875fe1b3575b4a656cbb33143870dea5", func := "corvee/corveelaw11.OrderBegins", spec := "orderBegins", unfollowed := true, recurses := true, apart := false }
def OrderBeginsSaid : Prop := orderBeginsRow.holds Try.pinned (OpenSpec.ofChange orderBeginsSpec)

/-- ITS FALSE NEIGHBOUR: 'it returns false'. Refute it at one input. -/
def orderBeginsWrong : ChangeSpec := { name := "orderBegins", fn := fun _ => fun
  | [d1, d2, d3] => { results := [.lit (.bool false)], args := [d1, d2, d3] }
  | _ => none }
def OrderBeginsWrongFalsely : Prop := orderBeginsRow.holds Try.pinned (OpenSpec.ofChange orderBeginsWrong)

/- THE SECOND FORM. 'bulk': how many values and letters a reading holds, each counted each time it is reached (what is shared counts as often as it is met; a slice's spare places count too). A statement '..UptoSaid' is the law's where the arguments, and the package variables that the reading takes, are together of bulk at most 1048576: NARROWER than '..Said'. Prove '..Said' where nothing that the law and all that it calls make is longer than what came in: it says more and counts as full. Else prove '..UptoSaid'. A law counts once. -/
mutual
def uptoBulk {H : Type} : DataW H → Nat
  | .lit (.string bytes) => bytes.length + 1
  | .lit _ => 1
  | .nil => 1
  | .ptr d => uptoBulk d + 1
  | .slice elems spare => uptoBulkAll elems + uptoBulkAll spare + 1
  | .agg parts => uptoBulkAll parts + 1
  | .iface _ d => uptoBulk d + 1
  | .map entries => uptoBulkEntries entries + 1
  | .held _ => 1
def uptoBulkAll {H : Type} : List (DataW H) → Nat
  | [] => 0
  | d :: r => uptoBulk d + uptoBulkAll r
def uptoBulkEntries {H : Type} : List (Lit × DataW H) → Nat
  | [] => 0
  | x :: r => uptoBulkEntry x + uptoBulkEntries r
def uptoBulkEntry {H : Type} : Lit × DataW H → Nat
  | (.string bytes, d) => bytes.length + uptoBulk d + 1
  | (_, d) => uptoBulk d + 1
 end
def uptoSmall : (H : Type) → List (DataW H) → Bool := fun _ ds => decide (uptoBulkAll ds ≤ 1048576)
def OpenSpec.upto (s : _root_.Go.ChangeSpec) : _root_.Go.OpenSpec := { _root_.Go.OpenSpec.ofChange s with cond := some uptoSmall }

/-- 'corveelaw04.ShareCompares', WHERE WHAT IT READS IS OF BULK AT MOST 1048576: true; the input reads as it did. -/
def shareComparesUptoRow : OpenClaim := { program := "ytnjgkgnjbmfpfaa", sum := "9d01fb66f6a9b1553c32e6b03480d74f875fe1b3575b4a656cbb33143870dea5", func := "corvee/corveelaw04.ShareCompares", spec := "shareCompares", recurses := true, apart := false, narrowed := true }
def ShareComparesUptoSaid : Prop := shareComparesUptoRow.holds Try.pinned (OpenSpec.upto shareComparesSpec)

/-- 'corveelaw04.ShareDominates', WHERE WHAT IT READS IS OF BULK AT MOST 1048576: true; the input reads as it did. -/
def shareDominatesUptoRow : OpenClaim := { program := "ytnjgkgnjbmfpfaa", sum := "9d01fb66f6a9b1553c32e6b03480d74f875fe1b3575b4a656cbb33143870dea5", func := "corvee/corveelaw04.ShareDominates", spec := "shareDominates", recurses := true, apart := false, narrowed := true }
def ShareDominatesUptoSaid : Prop := shareDominatesUptoRow.holds Try.pinned (OpenSpec.upto shareDominatesSpec)

/-- 'corveelaw04.ShareLeast', WHERE WHAT IT READS IS OF BULK AT MOST 1048576: true; the input reads as it did. -/
def shareLeastUptoRow : OpenClaim := { program := "ytnjgkgnjbmfpfaa", sum := "9d01fb66f6a9b1553c32e6b03480d74f875fe1b3575b4a656cbb33143870dea5", func := "corvee/corveelaw04.ShareLeast", spec := "shareLeast", apart := false, narrowed := true }
def ShareLeastUptoSaid : Prop := shareLeastUptoRow.holds Try.pinned (OpenSpec.upto shareLeastSpec)

/-- 'corveelaw04.ShareOrders', WHERE WHAT IT READS IS OF BULK AT MOST 1048576: true; the input reads as it did. -/
def shareOrdersUptoRow : OpenClaim := { program := "ytnjgkgnjbmfpfaa", sum := "9d01fb66f6a9b1553c32e6b03480d74f875fe1b3575b4a656cbb33143870dea5", func := "corvee/corveelaw04.ShareOrders", spec := "shareOrders", apart := false, narrowed := true }
def ShareOrdersUptoSaid : Prop := shareOrdersUptoRow.holds Try.pinned (OpenSpec.upto shareOrdersSpec)

/-- 'corveelaw04.ShareGrows', WHERE WHAT IT READS IS OF BULK AT MOST 1048576: true; the input reads as it did. -/
def shareGrowsUptoRow : OpenClaim := { program := "ytnjgkgnjbmfpfaa", sum := "9d01fb66f6a9b1553c32e6b03480d74f875fe1b3575b4a656cbb33143870dea5", func := "corvee/corveelaw04.ShareGrows", spec := "shareGrows", apart := false, narrowed := true }
def ShareGrowsUptoSaid : Prop := shareGrowsUptoRow.holds Try.pinned (OpenSpec.upto shareGrowsSpec)

/-- 'corveelaw04.ShareLowest', WHERE WHAT IT READS IS OF BULK AT MOST 1048576: true; the input reads as it did. -/
def shareLowestUptoRow : OpenClaim := { program := "ytnjgkgnjbmfpfaa", sum := "9d01fb66f6a9b1553c32e6b03480d74f875fe1b3575b4a656cbb33143870dea5", func := "corvee/corveelaw04.ShareLowest", spec := "shareLowest", apart := false, narrowed := true }
def ShareLowestUptoSaid : Prop := shareLowestUptoRow.holds Try.pinned (OpenSpec.upto shareLowestSpec)

/-- 'corveelaw04.ShareLadders', WHERE WHAT IT READS IS OF BULK AT MOST 1048576: true; the input reads as it did. -/
def shareLaddersUptoRow : OpenClaim := { program := "ytnjgkgnjbmfpfaa", sum := "9d01fb66f6a9b1553c32e6b03480d74f875fe1b3575b4a656cbb33143870dea5", func := "corvee/corveelaw04.ShareLadders", spec := "shareLadders", unfollowed := true, recurses := true, apart := false, narrowed := true }
def ShareLaddersUptoSaid : Prop := shareLaddersUptoRow.holds Try.pinned (OpenSpec.upto shareLaddersSpec)

/-- 'corveelaw11.OrderPlus', WHERE WHAT IT READS IS OF BULK AT MOST 1048576: true; the input reads as it did. -/
def orderPlusUptoRow : OpenClaim := { program := "ytnjgkgnjbmfpfaa", sum := "9d01fb66f6a9b1553c32e6b03480d74f875fe1b3575b4a656cbb33143870dea5", func := "corvee/corveelaw11.OrderPlus", spec := "orderPlus", unfollowed := true, recurses := true, apart := false, narrowed := true }
def OrderPlusUptoSaid : Prop := orderPlusUptoRow.holds Try.pinned (OpenSpec.upto orderPlusSpec)

/-- 'corveelaw11.OrderWhole', WHERE WHAT IT READS IS OF BULK AT MOST 1048576: true; the input reads as it did. -/
def orderWholeUptoRow : OpenClaim := { program := "ytnjgkgnjbmfpfaa", sum := "9d01fb66f6a9b1553c32e6b03480d74f875fe1b3575b4a656cbb33143870dea5", func := "corvee/corveelaw11.OrderWhole", spec := "orderWhole", unfollowed := true, recurses := true, apart := false, narrowed := true }
def OrderWholeUptoSaid : Prop := orderWholeUptoRow.holds Try.pinned (OpenSpec.upto orderWholeSpec)

/-- 'corveelaw11.OrderFair', WHERE WHAT IT READS IS OF BULK AT MOST 1048576: true; the input reads as it did. -/
def orderFairUptoRow : OpenClaim := { program := "ytnjgkgnjbmfpfaa", sum := "9d01fb66f6a9b1553c32e6b03480d74f875fe1b3575b4a656cbb33143870dea5", func := "corvee/corveelaw11.OrderFair", spec := "orderFair", unfollowed := true, recurses := true, apart := false, narrowed := true }
def OrderFairUptoSaid : Prop := orderFairUptoRow.holds Try.pinned (OpenSpec.upto orderFairSpec)

/-- 'corveelaw11.OrderTurned', WHERE WHAT IT READS IS OF BULK AT MOST 1048576: true; the input reads as it did. -/
def orderTurnedUptoRow : OpenClaim := { program := "ytnjgkgnjbmfpfaa", sum := "9d01fb66f6a9b1553c32e6b03480d74f875fe1b3575b4a656cbb33143870dea5", func := "corvee/corveelaw11.OrderTurned", spec := "orderTurned", unfollowed := true, recurses := true, apart := false, narrowed := true }
def OrderTurnedUptoSaid : Prop := orderTurnedUptoRow.holds Try.pinned (OpenSpec.upto orderTurnedSpec)

/-- 'corveelaw11.OrderTurns', WHERE WHAT IT READS IS OF BULK AT MOST 1048576: true; the input reads as it did. -/
def orderTurnsUptoRow : OpenClaim := { program := "ytnjgkgnjbmfpfaa", sum := "9d01fb66f6a9b1553c32e6b03480d74f875fe1b3575b4a656cbb33143870dea5", func := "corvee/corveelaw11.OrderTurns", spec := "orderTurns", unfollowed := true, recurses := true, apart := false, narrowed := true }
def OrderTurnsUptoSaid : Prop := orderTurnsUptoRow.holds Try.pinned (OpenSpec.upto orderTurnsSpec)

/-- 'corveelaw11.OrderBegins', WHERE WHAT IT READS IS OF BULK AT MOST 1048576: true; the input reads as it did. -/
def orderBeginsUptoRow : OpenClaim := { program := "ytnjgkgnjbmfpfaa", sum := "9d01fb66f6a9b1553c32e6b03480d74f875fe1b3575b4a656cbb33143870dea5", func := "corvee/corveelaw11.OrderBegins", spec := "orderBegins", unfollowed := true, recurses := true, apart := false, narrowed := true }
def OrderBeginsUptoSaid : Prop := orderBeginsUptoRow.holds Try.pinned (OpenSpec.upto orderBeginsSpec)

end Rows
end Go.Proofs.Ytnjgkgnjbmfpfaa
