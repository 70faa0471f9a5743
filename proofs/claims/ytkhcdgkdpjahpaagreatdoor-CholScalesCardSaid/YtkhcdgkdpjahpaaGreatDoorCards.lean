/-
  DERIVED. GIVEN WITH THE SEED: THE CARDS: each row of YtkhcdgkdpjahpaaGreatDoorRows.lean that lists a variable, with what it lists TIED to the program's text (the seventh form; the later family's looks); each row that meets fmt, with fmt's text TOLD by the authors' own Lean function (tested against real Go, not proved from fmt's source: count such statements apart). THE CARD IS WHAT COUNTS. Prove the row's statement (the work); the ties are given (YtkhcdgkdpjahpaaGreatDoorTie.lean); close each card by the builder's one call (the guide's Derived/Test/ToyasCard.lean, 'card_holds'). Laid BY PROGRAM, IN A SANDBOX (cutbox-door.mjs). By AI agents, Wed Nov 11 2026. No macro, syntax, notation, axiom, sorry.
-/
import Derived.Test.YtkhcdgkdpjahpaaGreatDoorRows
import GoSem.ClaimSeven
namespace Go.Proofs.YtkhcdgkdpjahpaaGreatDoor
namespace Rows

/-- THE TIED CARD OF 'sparselaw24.CholLeft'. -/
def cholLeftCard : Claim7 := { stood := { row := cholLeftRow, standIns := [], harness := (true, "0636b7c1f3e5d2813aad18fcaf1333dcdd944d6c8213ce75241e944d4ced4571"), looks := false }, kinds := [], alts := [], laidByText := true, laidKinds := [.data], laidTests := true, laidLooks := .later }
def CholLeftCardSaid : Prop := Claim7.holds Tryz.pinned (.plain (OpenSpec.ofChange cholLeftSpec)) cholLeftCard

/-- THE TIED CARD OF 'sparselaw24.CholPattern'. -/
def cholPatternCard : Claim7 := { stood := { row := cholPatternRow, standIns := [], harness := (true, "0636b7c1f3e5d2813aad18fcaf1333dcdd944d6c8213ce75241e944d4ced4571"), looks := false }, kinds := [], alts := [], laidByText := true, laidKinds := [.data], laidTests := true, laidLooks := .later }
def CholPatternCardSaid : Prop := Claim7.holds Tryz.pinned (.plain (OpenSpec.ofChange cholPatternSpec)) cholPatternCard

/-- THE TIED CARD OF 'sparselaw24.CholScales'. -/
def cholScalesCard : Claim7 := { stood := { row := cholScalesRow, standIns := [], harness := (true, "0636b7c1f3e5d2813aad18fcaf1333dcdd944d6c8213ce75241e944d4ced4571"), looks := false }, kinds := [], alts := [], laidByText := true, laidKinds := [.data], laidTests := true, laidLooks := .later }
def CholScalesCardSaid : Prop := Claim7.holds Tryz.pinned (.plain (OpenSpec.ofChange cholScalesSpec)) cholScalesCard

/-- THE TIED CARD OF 'sparselaw24.CholErrors'. -/
def cholErrorsCard : Claim7 := { stood := { row := cholErrorsRow, standIns := [], harness := (true, "0636b7c1f3e5d2813aad18fcaf1333dcdd944d6c8213ce75241e944d4ced4571"), looks := false }, kinds := [], alts := [], laidByText := true, laidKinds := [.data], laidTests := true, laidLooks := .later }
def CholErrorsCardSaid : Prop := Claim7.holds Tryz.pinned (.plain (OpenSpec.ofChange cholErrorsSpec)) cholErrorsCard

/-- THE TIED CARD OF 'sparselaw24.CholProducts'. -/
def cholProductsCard : Claim7 := { stood := { row := cholProductsRow, standIns := [], harness := (true, "0636b7c1f3e5d2813aad18fcaf1333dcdd944d6c8213ce75241e944d4ced4571"), looks := false }, kinds := [], alts := [], laidByText := true, laidKinds := [.data], laidTests := true, laidLooks := .later }
def CholProductsCardSaid : Prop := Claim7.holds Tryz.pinned (.plain (OpenSpec.ofChange cholProductsSpec)) cholProductsCard

/-- THE TIED CARD OF 'sparselaw24.CholFronts'. -/
def cholFrontsCard : Claim7 := { stood := { row := cholFrontsRow, standIns := [], harness := (true, "0636b7c1f3e5d2813aad18fcaf1333dcdd944d6c8213ce75241e944d4ced4571"), looks := false }, kinds := [], alts := [], laidByText := true, laidKinds := [.data], laidTests := true, laidLooks := .later }
def CholFrontsCardSaid : Prop := Claim7.holds Tryz.pinned (.plain (OpenSpec.ofChange cholFrontsSpec)) cholFrontsCard

/-- THE TIED CARD OF 'sparselaw24.CholBadFronts'. -/
def cholBadFrontsCard : Claim7 := { stood := { row := cholBadFrontsRow, standIns := [], harness := (true, "0636b7c1f3e5d2813aad18fcaf1333dcdd944d6c8213ce75241e944d4ced4571"), looks := false }, kinds := [], alts := [], laidByText := true, laidKinds := [.data], laidTests := true, laidLooks := .later }
def CholBadFrontsCardSaid : Prop := Claim7.holds Tryz.pinned (.plain (OpenSpec.ofChange cholBadFrontsSpec)) cholBadFrontsCard

/-- THE TIED CARD OF 'sparselaw24.CholRefuses'. -/
def cholRefusesCard : Claim7 := { stood := { row := cholRefusesRow, standIns := [], harness := (true, "0636b7c1f3e5d2813aad18fcaf1333dcdd944d6c8213ce75241e944d4ced4571"), looks := false }, kinds := [], alts := [], laidByText := true, laidKinds := [.data], laidTests := true, laidLooks := .later }
def CholRefusesCardSaid : Prop := Claim7.holds Tryz.pinned (.plain (OpenSpec.ofChange cholRefusesSpec)) cholRefusesCard

/-- THE SECOND FORM's CARD OF 'sparselaw24.CholLeft'. -/
def cholLeftUptoCard : Claim7 := { stood := { row := cholLeftUptoRow, standIns := [], harness := (true, "0636b7c1f3e5d2813aad18fcaf1333dcdd944d6c8213ce75241e944d4ced4571"), looks := false }, kinds := [], alts := [], laidByText := true, laidKinds := [.data], laidTests := true, laidLooks := .later }
def CholLeftUptoCardSaid : Prop := Claim7.holds Tryz.pinned (.plain (OpenSpec.upto cholLeftSpec)) cholLeftUptoCard

/-- THE SECOND FORM's CARD OF 'sparselaw24.CholPattern'. -/
def cholPatternUptoCard : Claim7 := { stood := { row := cholPatternUptoRow, standIns := [], harness := (true, "0636b7c1f3e5d2813aad18fcaf1333dcdd944d6c8213ce75241e944d4ced4571"), looks := false }, kinds := [], alts := [], laidByText := true, laidKinds := [.data], laidTests := true, laidLooks := .later }
def CholPatternUptoCardSaid : Prop := Claim7.holds Tryz.pinned (.plain (OpenSpec.upto cholPatternSpec)) cholPatternUptoCard

/-- THE SECOND FORM's CARD OF 'sparselaw24.CholScales'. -/
def cholScalesUptoCard : Claim7 := { stood := { row := cholScalesUptoRow, standIns := [], harness := (true, "0636b7c1f3e5d2813aad18fcaf1333dcdd944d6c8213ce75241e944d4ced4571"), looks := false }, kinds := [], alts := [], laidByText := true, laidKinds := [.data], laidTests := true, laidLooks := .later }
def CholScalesUptoCardSaid : Prop := Claim7.holds Tryz.pinned (.plain (OpenSpec.upto cholScalesSpec)) cholScalesUptoCard

/-- THE SECOND FORM's CARD OF 'sparselaw24.CholErrors'. -/
def cholErrorsUptoCard : Claim7 := { stood := { row := cholErrorsUptoRow, standIns := [], harness := (true, "0636b7c1f3e5d2813aad18fcaf1333dcdd944d6c8213ce75241e944d4ced4571"), looks := false }, kinds := [], alts := [], laidByText := true, laidKinds := [.data], laidTests := true, laidLooks := .later }
def CholErrorsUptoCardSaid : Prop := Claim7.holds Tryz.pinned (.plain (OpenSpec.upto cholErrorsSpec)) cholErrorsUptoCard

/-- THE SECOND FORM's CARD OF 'sparselaw24.CholProducts'. -/
def cholProductsUptoCard : Claim7 := { stood := { row := cholProductsUptoRow, standIns := [], harness := (true, "0636b7c1f3e5d2813aad18fcaf1333dcdd944d6c8213ce75241e944d4ced4571"), looks := false }, kinds := [], alts := [], laidByText := true, laidKinds := [.data], laidTests := true, laidLooks := .later }
def CholProductsUptoCardSaid : Prop := Claim7.holds Tryz.pinned (.plain (OpenSpec.upto cholProductsSpec)) cholProductsUptoCard

/-- THE SECOND FORM's CARD OF 'sparselaw24.CholFronts'. -/
def cholFrontsUptoCard : Claim7 := { stood := { row := cholFrontsUptoRow, standIns := [], harness := (true, "0636b7c1f3e5d2813aad18fcaf1333dcdd944d6c8213ce75241e944d4ced4571"), looks := false }, kinds := [], alts := [], laidByText := true, laidKinds := [.data], laidTests := true, laidLooks := .later }
def CholFrontsUptoCardSaid : Prop := Claim7.holds Tryz.pinned (.plain (OpenSpec.upto cholFrontsSpec)) cholFrontsUptoCard

/-- THE SECOND FORM's CARD OF 'sparselaw24.CholBadFronts'. -/
def cholBadFrontsUptoCard : Claim7 := { stood := { row := cholBadFrontsUptoRow, standIns := [], harness := (true, "0636b7c1f3e5d2813aad18fcaf1333dcdd944d6c8213ce75241e944d4ced4571"), looks := false }, kinds := [], alts := [], laidByText := true, laidKinds := [.data], laidTests := true, laidLooks := .later }
def CholBadFrontsUptoCardSaid : Prop := Claim7.holds Tryz.pinned (.plain (OpenSpec.upto cholBadFrontsSpec)) cholBadFrontsUptoCard

/-- THE SECOND FORM's CARD OF 'sparselaw24.CholRefuses'. -/
def cholRefusesUptoCard : Claim7 := { stood := { row := cholRefusesUptoRow, standIns := [], harness := (true, "0636b7c1f3e5d2813aad18fcaf1333dcdd944d6c8213ce75241e944d4ced4571"), looks := false }, kinds := [], alts := [], laidByText := true, laidKinds := [.data], laidTests := true, laidLooks := .later }
def CholRefusesUptoCardSaid : Prop := Claim7.holds Tryz.pinned (.plain (OpenSpec.upto cholRefusesSpec)) cholRefusesUptoCard
end Rows
end Go.Proofs.YtkhcdgkdpjahpaaGreatDoor
