/-
  NARROWER THAN 'FOR EVERY INPUT', by the rows' own cells (each row's printed sentence says how): LifeNexts: laid · LifeRights: laid · LifeNews: laid · LifeStays: laid · LifeEnds: laid · LifeHolds: laid.
  DERIVED. THE GIVEN ROWS OF THIS SEAT. 6 by the template 'for every input the law returns true; each argument reads behind the call as it read before'; 0 by the template 'total and deterministic' (their statements: YtmpggfcceepccaaDoorTotals.lean).
  GIVEN WITH THE SEED: the statements are not yours to turn. If you find one false, say at which input.
  Laid BY PROGRAM, IN A SANDBOX (cutbox-rows.mjs): the forced cells as the released guide's own fill.sh prints them over the translation 0e1cc8d7853263a6… (all of the seat's roots in one cut). By AI agents, Wed Nov 11 2026. No macro, syntax, notation, axiom, sorry.
-/
import Derived.Test.YtmpggfcceepccaaDoorChecked
import GoSem.Claim
import GoSem.ClaimJoined
import GoSem.ClaimMapViews
import Derived.JoinedTies
import Derived.KernelRfl
namespace Go.Proofs.YtmpggfcceepccaaDoor
/- THE CELL 'sum', in the pinned program and in every row, IS THE sha256 OF THE DUMP (.gsa) THAT YtmpggfcceepccaaDoorProg.lean LOADS. Nothing in Lean hashes anything: it is a label: what it is worth is what the hold of that sum in a sandbox is worth. -/
noncomputable def Tryd.pinned : Pinned := { name := "ytmpggfcceepccaadoor", sum := "0e1cc8d7853263a65cfa89926bcbac6aea7f2182081666ef0ac682478e102613", checked := Tryd.checked }
namespace Rows
def none {H : Type} : Left H := { results := [], args := [] }

/- WHAT THE LISTED PACKAGE-LEVEL VARIABLES READ AS WHEN THE CALL BEGINS. Each datum BY PROGRAM (the guide's laid-datum.mjs) off the statement by which the dump's own 'gosem.cut.vars' lays the variable. In a bare row this is a premise. The card (YtmpggfcceepccaaDoorCards.lean) ties it to the program's text. -/
def laid_corvee_life_names {H : Type} : DataW H := .agg [.lit (.string []), .lit (.string [112, 101, 110, 100, 105, 110, 103]), .lit (.string [104, 101, 108, 100]), .lit (.string [114, 117, 110, 110, 105, 110, 103]), .lit (.string [101, 110, 100, 105, 110, 103]), .lit (.string [100, 111, 110, 101]), .lit (.string [116, 105, 109, 101, 100, 111, 117, 116]), .lit (.string [102, 97, 105, 108, 101, 100]), .lit (.string [99, 97, 110, 99, 101, 108, 108, 101, 100])]

/-- 'corveelaw10.LifeNexts': WHATEVER THE INPUT: true; the input reads as it did. -/
def lifeNextsSpec : ChangeSpec := { name := "lifeNexts", fn := fun _ => fun
  | [d1, d2] => { results := [.lit (.bool true)], args := [d1, d2] }
  | _ => none }
def lifeNextsRow : OpenClaim := { program := "ytmpggfcceepccaadoor", sum := "0e1cc8d7853263a65cfa89926bcbac6aea7f2182081666ef0ac682478e102613", func := "corvee/corveelaw10.LifeNexts", spec := "lifeNexts", named := ["corvee/life.names"], apart := false, laid := [("corvee/life.names", laid_corvee_life_names)] }
def LifeNextsSaid : Prop := lifeNextsRow.holds Tryd.pinned (OpenSpec.ofChange lifeNextsSpec)

/-- ITS FALSE NEIGHBOUR: 'it returns false'. Refute it at one input. -/
def lifeNextsWrong : ChangeSpec := { name := "lifeNexts", fn := fun _ => fun
  | [d1, d2] => { results := [.lit (.bool false)], args := [d1, d2] }
  | _ => none }
def LifeNextsWrongFalsely : Prop := lifeNextsRow.holds Tryd.pinned (OpenSpec.ofChange lifeNextsWrong)

/-- 'corveelaw10.LifeRights': WHATEVER THE INPUT: true; the input reads as it did. -/
def lifeRightsSpec : ChangeSpec := { name := "lifeRights", fn := fun _ => fun
  | [d] => { results := [.lit (.bool true)], args := [d] }
  | _ => none }
def lifeRightsRow : OpenClaim := { program := "ytmpggfcceepccaadoor", sum := "0e1cc8d7853263a65cfa89926bcbac6aea7f2182081666ef0ac682478e102613", func := "corvee/corveelaw10.LifeRights", spec := "lifeRights", named := ["corvee/life.names"], apart := false, laid := [("corvee/life.names", laid_corvee_life_names)] }
def LifeRightsSaid : Prop := lifeRightsRow.holds Tryd.pinned (OpenSpec.ofChange lifeRightsSpec)

/-- ITS FALSE NEIGHBOUR: 'it returns false'. Refute it at one input. -/
def lifeRightsWrong : ChangeSpec := { name := "lifeRights", fn := fun _ => fun
  | [d] => { results := [.lit (.bool false)], args := [d] }
  | _ => none }
def LifeRightsWrongFalsely : Prop := lifeRightsRow.holds Tryd.pinned (OpenSpec.ofChange lifeRightsWrong)

/-- 'corveelaw10.LifeNews': WHATEVER THE INPUT: true; the input reads as it did. -/
def lifeNewsSpec : ChangeSpec := { name := "lifeNews", fn := fun _ => fun
  | [d1, d2] => { results := [.lit (.bool true)], args := [d1, d2] }
  | _ => none }
def lifeNewsRow : OpenClaim := { program := "ytmpggfcceepccaadoor", sum := "0e1cc8d7853263a65cfa89926bcbac6aea7f2182081666ef0ac682478e102613", func := "corvee/corveelaw10.LifeNews", spec := "lifeNews", named := ["corvee/life.names"], apart := false, laid := [("corvee/life.names", laid_corvee_life_names)] }
def LifeNewsSaid : Prop := lifeNewsRow.holds Tryd.pinned (OpenSpec.ofChange lifeNewsSpec)

/-- ITS FALSE NEIGHBOUR: 'it returns false'. Refute it at one input. -/
def lifeNewsWrong : ChangeSpec := { name := "lifeNews", fn := fun _ => fun
  | [d1, d2] => { results := [.lit (.bool false)], args := [d1, d2] }
  | _ => none }
def LifeNewsWrongFalsely : Prop := lifeNewsRow.holds Tryd.pinned (OpenSpec.ofChange lifeNewsWrong)

/-- 'corveelaw10.LifeStays': WHATEVER THE INPUT: true; the input reads as it did. -/
def lifeStaysSpec : ChangeSpec := { name := "lifeStays", fn := fun _ => fun
  | [d1, d2, d3] => { results := [.lit (.bool true)], args := [d1, d2, d3] }
  | _ => none }
def lifeStaysRow : OpenClaim := { program := "ytmpggfcceepccaadoor", sum := "0e1cc8d7853263a65cfa89926bcbac6aea7f2182081666ef0ac682478e102613", func := "corvee/corveelaw10.LifeStays", spec := "lifeStays", named := ["corvee/life.names"], apart := false, laid := [("corvee/life.names", laid_corvee_life_names)] }
def LifeStaysSaid : Prop := lifeStaysRow.holds Tryd.pinned (OpenSpec.ofChange lifeStaysSpec)

/-- ITS FALSE NEIGHBOUR: 'it returns false'. Refute it at one input. -/
def lifeStaysWrong : ChangeSpec := { name := "lifeStays", fn := fun _ => fun
  | [d1, d2, d3] => { results := [.lit (.bool false)], args := [d1, d2, d3] }
  | _ => none }
def LifeStaysWrongFalsely : Prop := lifeStaysRow.holds Tryd.pinned (OpenSpec.ofChange lifeStaysWrong)

/-- 'corveelaw10.LifeEnds': WHATEVER THE INPUT: true; the input reads as it did. -/
def lifeEndsSpec : ChangeSpec := { name := "lifeEnds", fn := fun _ => fun
  | [d1, d2] => { results := [.lit (.bool true)], args := [d1, d2] }
  | _ => none }
def lifeEndsRow : OpenClaim := { program := "ytmpggfcceepccaadoor", sum := "0e1cc8d7853263a65cfa89926bcbac6aea7f2182081666ef0ac682478e102613", func := "corvee/corveelaw10.LifeEnds", spec := "lifeEnds", named := ["corvee/life.names"], apart := false, laid := [("corvee/life.names", laid_corvee_life_names)] }
def LifeEndsSaid : Prop := lifeEndsRow.holds Tryd.pinned (OpenSpec.ofChange lifeEndsSpec)

/-- ITS FALSE NEIGHBOUR: 'it returns false'. Refute it at one input. -/
def lifeEndsWrong : ChangeSpec := { name := "lifeEnds", fn := fun _ => fun
  | [d1, d2] => { results := [.lit (.bool false)], args := [d1, d2] }
  | _ => none }
def LifeEndsWrongFalsely : Prop := lifeEndsRow.holds Tryd.pinned (OpenSpec.ofChange lifeEndsWrong)

/-- 'corveelaw10.LifeHolds': WHATEVER THE INPUT: true; the input reads as it did. -/
def lifeHoldsSpec : ChangeSpec := { name := "lifeHolds", fn := fun _ => fun
  | [d1, d2] => { results := [.lit (.bool true)], args := [d1, d2] }
  | _ => none }
def lifeHoldsRow : OpenClaim := { program := "ytmpggfcceepccaadoor", sum := "0e1cc8d7853263a65cfa89926bcbac6aea7f2182081666ef0ac682478e102613", func := "corvee/corveelaw10.LifeHolds", spec := "lifeHolds", named := ["corvee/life.names"], apart := false, laid := [("corvee/life.names", laid_corvee_life_names)] }
def LifeHoldsSaid : Prop := lifeHoldsRow.holds Tryd.pinned (OpenSpec.ofChange lifeHoldsSpec)

/-- ITS FALSE NEIGHBOUR: 'it returns false'. Refute it at one input. -/
def lifeHoldsWrong : ChangeSpec := { name := "lifeHolds", fn := fun _ => fun
  | [d1, d2] => { results := [.lit (.bool false)], args := [d1, d2] }
  | _ => none }
def LifeHoldsWrongFalsely : Prop := lifeHoldsRow.holds Tryd.pinned (OpenSpec.ofChange lifeHoldsWrong)

/- THE SECOND FORM. 'bulk': how many values and letters a reading holds, each counted each time it is reached (what is shared counts as often as it is met; a slice's spare places count too). A statement '..UptoSaid' is the law's where the arguments, and the package variables that the reading takes, are together of bulk at most 1048576: NARROWER than '..Said'. Prove '..Said' where nothing that the law and all that it calls make is longer than what came in: it says more and counts as full. Else prove '..UptoSaid'. A law counts once. -/
mutual
def uptoBulk {H : Type} : DataW H → Nat
  | .lit (.string bytes) => bytes.length + 1
  | .lit _ => 1
  | .nil => 1
  | .ptr d => uptoBulk d + 1
  | .slice elems spare => uptoBulkAll elems + uptoBulkAll spare + 1
  | .agg parts => uptoBulkAll parts + 1
  | .iface _ d => uptoBulk d + 1
  | .map entries => uptoBulkEntries entries + 1
  | .held _ => 1
def uptoBulkAll {H : Type} : List (DataW H) → Nat
  | [] => 0
  | d :: r => uptoBulk d + uptoBulkAll r
def uptoBulkEntries {H : Type} : List (Lit × DataW H) → Nat
  | [] => 0
  | x :: r => uptoBulkEntry x + uptoBulkEntries r
def uptoBulkEntry {H : Type} : Lit × DataW H → Nat
  | (.string bytes, d) => bytes.length + uptoBulk d + 1
  | (_, d) => uptoBulk d + 1
 end
def uptoSmall : (H : Type) → List (DataW H) → Bool := fun _ ds => decide (uptoBulkAll ds ≤ 1048576)
def OpenSpec.upto (s : _root_.Go.ChangeSpec) : _root_.Go.OpenSpec := { _root_.Go.OpenSpec.ofChange s with cond := some uptoSmall }

/-- 'corveelaw10.LifeNexts', WHERE WHAT IT READS IS OF BULK AT MOST 1048576: true; the input reads as it did. -/
def lifeNextsUptoRow : OpenClaim := { program := "ytmpggfcceepccaadoor", sum := "0e1cc8d7853263a65cfa89926bcbac6aea7f2182081666ef0ac682478e102613", func := "corvee/corveelaw10.LifeNexts", spec := "lifeNexts", named := ["corvee/life.names"], apart := false, laid := [("corvee/life.names", laid_corvee_life_names)], narrowed := true }
def LifeNextsUptoSaid : Prop := lifeNextsUptoRow.holds Tryd.pinned (OpenSpec.upto lifeNextsSpec)

/-- 'corveelaw10.LifeRights', WHERE WHAT IT READS IS OF BULK AT MOST 1048576: true; the input reads as it did. -/
def lifeRightsUptoRow : OpenClaim := { program := "ytmpggfcceepccaadoor", sum := "0e1cc8d7853263a65cfa89926bcbac6aea7f2182081666ef0ac682478e102613", func := "corvee/corveelaw10.LifeRights", spec := "lifeRights", named := ["corvee/life.names"], apart := false, laid := [("corvee/life.names", laid_corvee_life_names)], narrowed := true }
def LifeRightsUptoSaid : Prop := lifeRightsUptoRow.holds Tryd.pinned (OpenSpec.upto lifeRightsSpec)

/-- 'corveelaw10.LifeNews', WHERE WHAT IT READS IS OF BULK AT MOST 1048576: true; the input reads as it did. -/
def lifeNewsUptoRow : OpenClaim := { program := "ytmpggfcceepccaadoor", sum := "0e1cc8d7853263a65cfa89926bcbac6aea7f2182081666ef0ac682478e102613", func := "corvee/corveelaw10.LifeNews", spec := "lifeNews", named := ["corvee/life.names"], apart := false, laid := [("corvee/life.names", laid_corvee_life_names)], narrowed := true }
def LifeNewsUptoSaid : Prop := lifeNewsUptoRow.holds Tryd.pinned (OpenSpec.upto lifeNewsSpec)

/-- 'corveelaw10.LifeStays', WHERE WHAT IT READS IS OF BULK AT MOST 1048576: true; the input reads as it did. -/
def lifeStaysUptoRow : OpenClaim := { program := "ytmpggfcceepccaadoor", sum := "0e1cc8d7853263a65cfa89926bcbac6aea7f2182081666ef0ac682478e102613", func := "corvee/corveelaw10.LifeStays", spec := "lifeStays", named := ["corvee/life.names"], apart := false, laid := [("corvee/life.names", laid_corvee_life_names)], narrowed := true }
def LifeStaysUptoSaid : Prop := lifeStaysUptoRow.holds Tryd.pinned (OpenSpec.upto lifeStaysSpec)

/-- 'corveelaw10.LifeEnds', WHERE WHAT IT READS IS OF BULK AT MOST 1048576: true; the input reads as it did. -/
def lifeEndsUptoRow : OpenClaim := { program := "ytmpggfcceepccaadoor", sum := "0e1cc8d7853263a65cfa89926bcbac6aea7f2182081666ef0ac682478e102613", func := "corvee/corveelaw10.LifeEnds", spec := "lifeEnds", named := ["corvee/life.names"], apart := false, laid := [("corvee/life.names", laid_corvee_life_names)], narrowed := true }
def LifeEndsUptoSaid : Prop := lifeEndsUptoRow.holds Tryd.pinned (OpenSpec.upto lifeEndsSpec)

/-- 'corveelaw10.LifeHolds', WHERE WHAT IT READS IS OF BULK AT MOST 1048576: true; the input reads as it did. -/
def lifeHoldsUptoRow : OpenClaim := { program := "ytmpggfcceepccaadoor", sum := "0e1cc8d7853263a65cfa89926bcbac6aea7f2182081666ef0ac682478e102613", func := "corvee/corveelaw10.LifeHolds", spec := "lifeHolds", named := ["corvee/life.names"], apart := false, laid := [("corvee/life.names", laid_corvee_life_names)], narrowed := true }
def LifeHoldsUptoSaid : Prop := lifeHoldsUptoRow.holds Tryd.pinned (OpenSpec.upto lifeHoldsSpec)

end Rows
end Go.Proofs.YtmpggfcceepccaaDoor
