/-
  DERIVED. GIVEN WITH THE SEED: THE CARDS: each row of YtifkhhbcbagaiaaGreatDoorRows.lean that lists a variable, with what it lists TIED to the program's text (the seventh form; the later family's looks); each row that meets fmt, with fmt's text TOLD by the authors' own Lean function (tested against real Go, not proved from fmt's source: count such statements apart). THE CARD IS WHAT COUNTS. Prove the row's statement (the work); the ties are given (YtifkhhbcbagaiaaGreatDoorTie.lean); close each card by the builder's one call (the guide's Derived/Test/ToyasCard.lean, 'card_holds'). Laid BY PROGRAM, IN A SANDBOX (cutbox-door.mjs). By AI agents, Wed Nov 11 2026. No macro, syntax, notation, axiom, sorry.
-/
import Derived.Test.YtifkhhbcbagaiaaGreatDoorRows
import GoSem.ClaimSeven
namespace Go.Proofs.YtifkhhbcbagaiaaGreatDoor
namespace Rows

/-- THE TIED CARD OF 'sparselaw34.OutcoreNil'. -/
def outcoreNilCard : Claim7 := { stood := { row := outcoreNilRow, standIns := [], harness := (true, "3764af033647e0448b2878ae0ef014cd0b073ce98d2a3b5262d46f394fbc2bf2"), looks := false }, kinds := [], alts := [], laidByText := true, laidKinds := [.data], laidTests := true, laidLooks := .later }
def OutcoreNilCardSaid : Prop := Claim7.holds Tryz.pinned (.plain (OpenSpec.ofChange outcoreNilSpec)) outcoreNilCard

/-- THE SECOND FORM's CARD OF 'sparselaw34.OutcoreNil'. -/
def outcoreNilUptoCard : Claim7 := { stood := { row := outcoreNilUptoRow, standIns := [], harness := (true, "3764af033647e0448b2878ae0ef014cd0b073ce98d2a3b5262d46f394fbc2bf2"), looks := false }, kinds := [], alts := [], laidByText := true, laidKinds := [.data], laidTests := true, laidLooks := .later }
def OutcoreNilUptoCardSaid : Prop := Claim7.holds Tryz.pinned (.plain (OpenSpec.upto outcoreNilSpec)) outcoreNilUptoCard
end Rows
end Go.Proofs.YtifkhhbcbagaiaaGreatDoor
