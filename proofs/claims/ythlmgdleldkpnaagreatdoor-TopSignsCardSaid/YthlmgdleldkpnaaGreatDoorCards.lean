/-
  DERIVED. GIVEN WITH THE SEED: THE CARDS: each row of YthlmgdleldkpnaaGreatDoorRows.lean that lists a variable, with what it lists TIED to the program's text (the seventh form; the later family's looks); each row that meets fmt, with fmt's text TOLD by the authors' own Lean function (tested against real Go, not proved from fmt's source: count such statements apart). THE CARD IS WHAT COUNTS. Prove the row's statement (the work); the ties are given (YthlmgdleldkpnaaGreatDoorTie.lean); close each card by the builder's one call (the guide's Derived/Test/ToyasCard.lean, 'card_holds'). Laid BY PROGRAM, IN A SANDBOX (cutbox-door.mjs). By AI agents, Wed Nov 11 2026. No macro, syntax, notation, axiom, sorry.
-/
import Derived.Test.YthlmgdleldkpnaaGreatDoorRows
import GoSem.ClaimSeven
namespace Go.Proofs.YthlmgdleldkpnaaGreatDoor
namespace Rows

/-- THE TIED CARD OF 'sparsetop.TopSigns'. -/
def topSignsCard : Claim7 := { stood := { row := topSignsRow, standIns := [], harness := (true, "ee436ed3d4cf9e230d263b2ed78a07af69934740fd0af84d57ec8c11a8ad72e8"), looks := false }, kinds := [], alts := [], laidByText := true, laidKinds := [.data], laidTests := true, laidLooks := .later }
def TopSignsCardSaid : Prop := Claim7.holds Tryz.pinned (.plain (OpenSpec.ofChange topSignsSpec)) topSignsCard

/-- THE SECOND FORM's CARD OF 'sparsetop.TopSigns'. -/
def topSignsUptoCard : Claim7 := { stood := { row := topSignsUptoRow, standIns := [], harness := (true, "ee436ed3d4cf9e230d263b2ed78a07af69934740fd0af84d57ec8c11a8ad72e8"), looks := false }, kinds := [], alts := [], laidByText := true, laidKinds := [.data], laidTests := true, laidLooks := .later }
def TopSignsUptoCardSaid : Prop := Claim7.holds Tryz.pinned (.plain (OpenSpec.upto topSignsSpec)) topSignsUptoCard
end Rows
end Go.Proofs.YthlmgdleldkpnaaGreatDoor
