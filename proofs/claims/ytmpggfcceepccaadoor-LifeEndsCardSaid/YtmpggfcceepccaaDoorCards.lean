/-
  DERIVED. GIVEN WITH THE SEED: THE CARDS: each row of YtmpggfcceepccaaDoorRows.lean that lists a variable, with what it lists TIED to the program's text (the seventh form; the later family's looks); each row that meets fmt, with fmt's text TOLD by the authors' own Lean function (tested against real Go, not proved from fmt's source: count such statements apart). THE CARD IS WHAT COUNTS. Prove the row's statement (the work); the ties are given (YtmpggfcceepccaaDoorTie.lean); close each card by the builder's one call (the guide's Derived/Test/ToyasCard.lean, 'card_holds'). Laid BY PROGRAM, IN A SANDBOX (cutbox-door.mjs). By AI agents, Wed Nov 11 2026. No macro, syntax, notation, axiom, sorry.
-/
import Derived.Test.YtmpggfcceepccaaDoorRows
import GoSem.ClaimSeven
namespace Go.Proofs.YtmpggfcceepccaaDoor
namespace Rows

/-- THE TIED CARD OF 'corveelaw10.LifeNexts'. -/
def lifeNextsCard : Claim7 := { stood := { row := lifeNextsRow, standIns := [], harness := (true, "571341a4a48b6a1cb79dbbe58ac00b2396a9eeb3c799a501157beac29052cadc"), looks := false }, kinds := [], alts := [], laidByText := true, laidKinds := [.data], laidTests := true, laidLooks := .later }
def LifeNextsCardSaid : Prop := Claim7.holds Tryd.pinned (.plain (OpenSpec.ofChange lifeNextsSpec)) lifeNextsCard

/-- THE TIED CARD OF 'corveelaw10.LifeRights'. -/
def lifeRightsCard : Claim7 := { stood := { row := lifeRightsRow, standIns := [], harness := (true, "571341a4a48b6a1cb79dbbe58ac00b2396a9eeb3c799a501157beac29052cadc"), looks := false }, kinds := [], alts := [], laidByText := true, laidKinds := [.data], laidTests := true, laidLooks := .later }
def LifeRightsCardSaid : Prop := Claim7.holds Tryd.pinned (.plain (OpenSpec.ofChange lifeRightsSpec)) lifeRightsCard

/-- THE TIED CARD OF 'corveelaw10.LifeNews'. -/
def lifeNewsCard : Claim7 := { stood := { row := lifeNewsRow, standIns := [], harness := (true, "571341a4a48b6a1cb79dbbe58ac00b2396a9eeb3c799a501157beac29052cadc"), looks := false }, kinds := [], alts := [], laidByText := true, laidKinds := [.data], laidTests := true, laidLooks := .later }
def LifeNewsCardSaid : Prop := Claim7.holds Tryd.pinned (.plain (OpenSpec.ofChange lifeNewsSpec)) lifeNewsCard

/-- THE TIED CARD OF 'corveelaw10.LifeStays'. -/
def lifeStaysCard : Claim7 := { stood := { row := lifeStaysRow, standIns := [], harness := (true, "571341a4a48b6a1cb79dbbe58ac00b2396a9eeb3c799a501157beac29052cadc"), looks := false }, kinds := [], alts := [], laidByText := true, laidKinds := [.data], laidTests := true, laidLooks := .later }
def LifeStaysCardSaid : Prop := Claim7.holds Tryd.pinned (.plain (OpenSpec.ofChange lifeStaysSpec)) lifeStaysCard

/-- THE TIED CARD OF 'corveelaw10.LifeEnds'. -/
def lifeEndsCard : Claim7 := { stood := { row := lifeEndsRow, standIns := [], harness := (true, "571341a4a48b6a1cb79dbbe58ac00b2396a9eeb3c799a501157beac29052cadc"), looks := false }, kinds := [], alts := [], laidByText := true, laidKinds := [.data], laidTests := true, laidLooks := .later }
def LifeEndsCardSaid : Prop := Claim7.holds Tryd.pinned (.plain (OpenSpec.ofChange lifeEndsSpec)) lifeEndsCard

/-- THE TIED CARD OF 'corveelaw10.LifeHolds'. -/
def lifeHoldsCard : Claim7 := { stood := { row := lifeHoldsRow, standIns := [], harness := (true, "571341a4a48b6a1cb79dbbe58ac00b2396a9eeb3c799a501157beac29052cadc"), looks := false }, kinds := [], alts := [], laidByText := true, laidKinds := [.data], laidTests := true, laidLooks := .later }
def LifeHoldsCardSaid : Prop := Claim7.holds Tryd.pinned (.plain (OpenSpec.ofChange lifeHoldsSpec)) lifeHoldsCard

/-- THE SECOND FORM's CARD OF 'corveelaw10.LifeNexts'. -/
def lifeNextsUptoCard : Claim7 := { stood := { row := lifeNextsUptoRow, standIns := [], harness := (true, "571341a4a48b6a1cb79dbbe58ac00b2396a9eeb3c799a501157beac29052cadc"), looks := false }, kinds := [], alts := [], laidByText := true, laidKinds := [.data], laidTests := true, laidLooks := .later }
def LifeNextsUptoCardSaid : Prop := Claim7.holds Tryd.pinned (.plain (OpenSpec.upto lifeNextsSpec)) lifeNextsUptoCard

/-- THE SECOND FORM's CARD OF 'corveelaw10.LifeRights'. -/
def lifeRightsUptoCard : Claim7 := { stood := { row := lifeRightsUptoRow, standIns := [], harness := (true, "571341a4a48b6a1cb79dbbe58ac00b2396a9eeb3c799a501157beac29052cadc"), looks := false }, kinds := [], alts := [], laidByText := true, laidKinds := [.data], laidTests := true, laidLooks := .later }
def LifeRightsUptoCardSaid : Prop := Claim7.holds Tryd.pinned (.plain (OpenSpec.upto lifeRightsSpec)) lifeRightsUptoCard

/-- THE SECOND FORM's CARD OF 'corveelaw10.LifeNews'. -/
def lifeNewsUptoCard : Claim7 := { stood := { row := lifeNewsUptoRow, standIns := [], harness := (true, "571341a4a48b6a1cb79dbbe58ac00b2396a9eeb3c799a501157beac29052cadc"), looks := false }, kinds := [], alts := [], laidByText := true, laidKinds := [.data], laidTests := true, laidLooks := .later }
def LifeNewsUptoCardSaid : Prop := Claim7.holds Tryd.pinned (.plain (OpenSpec.upto lifeNewsSpec)) lifeNewsUptoCard

/-- THE SECOND FORM's CARD OF 'corveelaw10.LifeStays'. -/
def lifeStaysUptoCard : Claim7 := { stood := { row := lifeStaysUptoRow, standIns := [], harness := (true, "571341a4a48b6a1cb79dbbe58ac00b2396a9eeb3c799a501157beac29052cadc"), looks := false }, kinds := [], alts := [], laidByText := true, laidKinds := [.data], laidTests := true, laidLooks := .later }
def LifeStaysUptoCardSaid : Prop := Claim7.holds Tryd.pinned (.plain (OpenSpec.upto lifeStaysSpec)) lifeStaysUptoCard

/-- THE SECOND FORM's CARD OF 'corveelaw10.LifeEnds'. -/
def lifeEndsUptoCard : Claim7 := { stood := { row := lifeEndsUptoRow, standIns := [], harness := (true, "571341a4a48b6a1cb79dbbe58ac00b2396a9eeb3c799a501157beac29052cadc"), looks := false }, kinds := [], alts := [], laidByText := true, laidKinds := [.data], laidTests := true, laidLooks := .later }
def LifeEndsUptoCardSaid : Prop := Claim7.holds Tryd.pinned (.plain (OpenSpec.upto lifeEndsSpec)) lifeEndsUptoCard

/-- THE SECOND FORM's CARD OF 'corveelaw10.LifeHolds'. -/
def lifeHoldsUptoCard : Claim7 := { stood := { row := lifeHoldsUptoRow, standIns := [], harness := (true, "571341a4a48b6a1cb79dbbe58ac00b2396a9eeb3c799a501157beac29052cadc"), looks := false }, kinds := [], alts := [], laidByText := true, laidKinds := [.data], laidTests := true, laidLooks := .later }
def LifeHoldsUptoCardSaid : Prop := Claim7.holds Tryd.pinned (.plain (OpenSpec.upto lifeHoldsSpec)) lifeHoldsUptoCard
end Rows
end Go.Proofs.YtmpggfcceepccaaDoor
