/-
  DERIVED. GIVEN WITH THE SEED: THE CARDS: each row of YtnndjinceoekdaaGreatDoorRows.lean that lists a variable, with what it lists TIED to the program's text (the seventh form; the later family's looks); each row that meets fmt, with fmt's text TOLD by the authors' own Lean function (tested against real Go, not proved from fmt's source: count such statements apart). THE CARD IS WHAT COUNTS. Prove the row's statement (the work); the ties are given (YtnndjinceoekdaaGreatDoorTie.lean); close each card by the builder's one call (the guide's Derived/Test/ToyasCard.lean, 'card_holds'). Laid BY PROGRAM, IN A SANDBOX (cutbox-door.mjs). By AI agents, Wed Nov 11 2026. No macro, syntax, notation, axiom, sorry.
-/
import Derived.Test.YtnndjinceoekdaaGreatDoorRows
import GoSem.ClaimSeven
namespace Go.Proofs.YtnndjinceoekdaaGreatDoor
namespace Rows

/-- THE TIED CARD OF 'sparselaw25.LdlFactors'. -/
def ldlFactorsCard : Claim7 := { stood := { row := ldlFactorsRow, standIns := [], harness := (true, "72b9763bb0eb8e1bc6719869284af4b6cb935b1bab46443f658e2e6dd2eebb38"), looks := false }, kinds := [], alts := [], laidByText := true, laidKinds := [.data], laidTests := true, laidLooks := .later }
def LdlFactorsCardSaid : Prop := Claim7.holds Tryz.pinned (.plain (OpenSpec.ofChange ldlFactorsSpec)) ldlFactorsCard

/-- THE TIED CARD OF 'sparselaw25.LdlZeros'. -/
def ldlZerosCard : Claim7 := { stood := { row := ldlZerosRow, standIns := [], harness := (true, "72b9763bb0eb8e1bc6719869284af4b6cb935b1bab46443f658e2e6dd2eebb38"), looks := false }, kinds := [], alts := [], laidByText := true, laidKinds := [.data], laidTests := true, laidLooks := .later }
def LdlZerosCardSaid : Prop := Claim7.holds Tryz.pinned (.plain (OpenSpec.ofChange ldlZerosSpec)) ldlZerosCard

/-- THE TIED CARD OF 'sparselaw25.LdlInertia'. -/
def ldlInertiaCard : Claim7 := { stood := { row := ldlInertiaRow, standIns := [], harness := (true, "72b9763bb0eb8e1bc6719869284af4b6cb935b1bab46443f658e2e6dd2eebb38"), looks := false }, kinds := [], alts := [], laidByText := true, laidKinds := [.data], laidTests := true, laidLooks := .later }
def LdlInertiaCardSaid : Prop := Claim7.holds Tryz.pinned (.plain (OpenSpec.ofChange ldlInertiaSpec)) ldlInertiaCard

/-- THE TIED CARD OF 'sparselaw25.LdlDiagonal'. -/
def ldlDiagonalCard : Claim7 := { stood := { row := ldlDiagonalRow, standIns := [], harness := (true, "72b9763bb0eb8e1bc6719869284af4b6cb935b1bab46443f658e2e6dd2eebb38"), looks := false }, kinds := [], alts := [], laidByText := true, laidKinds := [.data], laidTests := true, laidLooks := .later }
def LdlDiagonalCardSaid : Prop := Claim7.holds Tryz.pinned (.plain (OpenSpec.ofChange ldlDiagonalSpec)) ldlDiagonalCard

/-- THE TIED CARD OF 'sparselaw25.LdlRefuses'. -/
def ldlRefusesCard : Claim7 := { stood := { row := ldlRefusesRow, standIns := [], harness := (true, "72b9763bb0eb8e1bc6719869284af4b6cb935b1bab46443f658e2e6dd2eebb38"), looks := false }, kinds := [], alts := [], laidByText := true, laidKinds := [.data], laidTests := true, laidLooks := .later }
def LdlRefusesCardSaid : Prop := Claim7.holds Tryz.pinned (.plain (OpenSpec.ofChange ldlRefusesSpec)) ldlRefusesCard

/-- THE TIED CARD OF 'sparselaw25.LdlReads'. -/
def ldlReadsCard : Claim7 := { stood := { row := ldlReadsRow, standIns := [], harness := (true, "72b9763bb0eb8e1bc6719869284af4b6cb935b1bab46443f658e2e6dd2eebb38"), looks := false }, kinds := [], alts := [], laidByText := true, laidKinds := [.data], laidTests := true, laidLooks := .later }
def LdlReadsCardSaid : Prop := Claim7.holds Tryz.pinned (.plain (OpenSpec.ofChange ldlReadsSpec)) ldlReadsCard

/-- THE TIED CARD OF 'sparselaw25.LdlIntegers'. -/
def ldlIntegersCard : Claim7 := { stood := { row := ldlIntegersRow, standIns := [], harness := (true, "72b9763bb0eb8e1bc6719869284af4b6cb935b1bab46443f658e2e6dd2eebb38"), looks := false }, kinds := [], alts := [], laidByText := true, laidKinds := [.data], laidTests := true, laidLooks := .later }
def LdlIntegersCardSaid : Prop := Claim7.holds Tryz.pinned (.plain (OpenSpec.ofChange ldlIntegersSpec)) ldlIntegersCard

/-- THE SECOND FORM's CARD OF 'sparselaw25.LdlFactors'. -/
def ldlFactorsUptoCard : Claim7 := { stood := { row := ldlFactorsUptoRow, standIns := [], harness := (true, "72b9763bb0eb8e1bc6719869284af4b6cb935b1bab46443f658e2e6dd2eebb38"), looks := false }, kinds := [], alts := [], laidByText := true, laidKinds := [.data], laidTests := true, laidLooks := .later }
def LdlFactorsUptoCardSaid : Prop := Claim7.holds Tryz.pinned (.plain (OpenSpec.upto ldlFactorsSpec)) ldlFactorsUptoCard

/-- THE SECOND FORM's CARD OF 'sparselaw25.LdlZeros'. -/
def ldlZerosUptoCard : Claim7 := { stood := { row := ldlZerosUptoRow, standIns := [], harness := (true, "72b9763bb0eb8e1bc6719869284af4b6cb935b1bab46443f658e2e6dd2eebb38"), looks := false }, kinds := [], alts := [], laidByText := true, laidKinds := [.data], laidTests := true, laidLooks := .later }
def LdlZerosUptoCardSaid : Prop := Claim7.holds Tryz.pinned (.plain (OpenSpec.upto ldlZerosSpec)) ldlZerosUptoCard

/-- THE SECOND FORM's CARD OF 'sparselaw25.LdlInertia'. -/
def ldlInertiaUptoCard : Claim7 := { stood := { row := ldlInertiaUptoRow, standIns := [], harness := (true, "72b9763bb0eb8e1bc6719869284af4b6cb935b1bab46443f658e2e6dd2eebb38"), looks := false }, kinds := [], alts := [], laidByText := true, laidKinds := [.data], laidTests := true, laidLooks := .later }
def LdlInertiaUptoCardSaid : Prop := Claim7.holds Tryz.pinned (.plain (OpenSpec.upto ldlInertiaSpec)) ldlInertiaUptoCard

/-- THE SECOND FORM's CARD OF 'sparselaw25.LdlDiagonal'. -/
def ldlDiagonalUptoCard : Claim7 := { stood := { row := ldlDiagonalUptoRow, standIns := [], harness := (true, "72b9763bb0eb8e1bc6719869284af4b6cb935b1bab46443f658e2e6dd2eebb38"), looks := false }, kinds := [], alts := [], laidByText := true, laidKinds := [.data], laidTests := true, laidLooks := .later }
def LdlDiagonalUptoCardSaid : Prop := Claim7.holds Tryz.pinned (.plain (OpenSpec.upto ldlDiagonalSpec)) ldlDiagonalUptoCard

/-- THE SECOND FORM's CARD OF 'sparselaw25.LdlRefuses'. -/
def ldlRefusesUptoCard : Claim7 := { stood := { row := ldlRefusesUptoRow, standIns := [], harness := (true, "72b9763bb0eb8e1bc6719869284af4b6cb935b1bab46443f658e2e6dd2eebb38"), looks := false }, kinds := [], alts := [], laidByText := true, laidKinds := [.data], laidTests := true, laidLooks := .later }
def LdlRefusesUptoCardSaid : Prop := Claim7.holds Tryz.pinned (.plain (OpenSpec.upto ldlRefusesSpec)) ldlRefusesUptoCard

/-- THE SECOND FORM's CARD OF 'sparselaw25.LdlReads'. -/
def ldlReadsUptoCard : Claim7 := { stood := { row := ldlReadsUptoRow, standIns := [], harness := (true, "72b9763bb0eb8e1bc6719869284af4b6cb935b1bab46443f658e2e6dd2eebb38"), looks := false }, kinds := [], alts := [], laidByText := true, laidKinds := [.data], laidTests := true, laidLooks := .later }
def LdlReadsUptoCardSaid : Prop := Claim7.holds Tryz.pinned (.plain (OpenSpec.upto ldlReadsSpec)) ldlReadsUptoCard

/-- THE SECOND FORM's CARD OF 'sparselaw25.LdlIntegers'. -/
def ldlIntegersUptoCard : Claim7 := { stood := { row := ldlIntegersUptoRow, standIns := [], harness := (true, "72b9763bb0eb8e1bc6719869284af4b6cb935b1bab46443f658e2e6dd2eebb38"), looks := false }, kinds := [], alts := [], laidByText := true, laidKinds := [.data], laidTests := true, laidLooks := .later }
def LdlIntegersUptoCardSaid : Prop := Claim7.holds Tryz.pinned (.plain (OpenSpec.upto ldlIntegersSpec)) ldlIntegersUptoCard
end Rows
end Go.Proofs.YtnndjinceoekdaaGreatDoor
