/-
  NARROWER THAN 'FOR EVERY INPUT', by the rows' own cells (each row's printed sentence says how): CholLeft: laid · CholPattern: laid · CholScales: laid · CholErrors: laid · CholProducts: laid · CholFronts: laid · CholBadFronts: laid · CholRefuses: laid.
  DERIVED. THE GIVEN ROWS OF THIS SEAT. 8 by the template 'for every input the law returns true; each argument reads behind the call as it read before'; 0 by the template 'total and deterministic' (their statements: YtkhcdgkdpjahpaaGreatDoorTotals.lean).
  GIVEN WITH THE SEED: the statements are not yours to turn. If you find one false, say at which input.
  Laid BY PROGRAM, IN A SANDBOX (cutbox-rows.mjs): the forced cells as the released guide's own fill.sh prints them over the translation 300adb9a5831ffed… (all of the seat's roots in one cut). By AI agents, Wed Nov 11 2026. No macro, syntax, notation, axiom, sorry.
-/
import Derived.Test.YtkhcdgkdpjahpaaGreatDoorChecked
import GoSem.Claim
import GoSem.ClaimJoined
import GoSem.ClaimMapViews
import Derived.JoinedTies
import Derived.KernelRfl
namespace Go.Proofs.YtkhcdgkdpjahpaaGreatDoor
/- THE CELL 'sum', in the pinned program and in every row, IS THE sha256 OF THE DUMP (.gsa) THAT YtkhcdgkdpjahpaaGreatDoorProg.lean LOADS. Nothing in Lean hashes anything: it is a label: what it is worth is what the hold of that sum in a sandbox is worth. -/
noncomputable def Tryz.pinned : Pinned := { name := "ytkhcdgkdpjahpaagreatdoor", sum := "300adb9a5831ffedc15f67d1cfbb0bd4ffe1f95962f4db5b46687a18231ca5bc", checked := Tryz.checked }
namespace Rows
def none {H : Type} : Left H := { results := [], args := [] }

/- WHAT THE LISTED PACKAGE-LEVEL VARIABLES READ AS WHEN THE CALL BEGINS. Each datum BY PROGRAM (the guide's laid-datum.mjs) off the statement by which the dump's own 'gosem.cut.vars' lays the variable. In a bare row this is a premise. The card (YtkhcdgkdpjahpaaGreatDoorCards.lean) ties it to the program's text. -/
def laid_math_bits_deBruijn32tab {H : Type} : DataW H := .agg [.lit (.int .u8 0), .lit (.int .u8 1), .lit (.int .u8 28), .lit (.int .u8 2), .lit (.int .u8 29), .lit (.int .u8 14), .lit (.int .u8 24), .lit (.int .u8 3), .lit (.int .u8 30), .lit (.int .u8 22), .lit (.int .u8 20), .lit (.int .u8 15), .lit (.int .u8 25), .lit (.int .u8 17), .lit (.int .u8 4), .lit (.int .u8 8), .lit (.int .u8 31), .lit (.int .u8 27), .lit (.int .u8 13), .lit (.int .u8 23), .lit (.int .u8 21), .lit (.int .u8 19), .lit (.int .u8 16), .lit (.int .u8 7), .lit (.int .u8 26), .lit (.int .u8 12), .lit (.int .u8 18), .lit (.int .u8 6), .lit (.int .u8 11), .lit (.int .u8 5), .lit (.int .u8 10), .lit (.int .u8 9)]

/-- 'sparselaw24.CholLeft': WHATEVER THE INPUT: true; the input reads as it did. -/
def cholLeftSpec : ChangeSpec := { name := "cholLeft", fn := fun _ => fun
  | [d1, d2, d3, d4, d5] => { results := [.lit (.bool true)], args := [d1, d2, d3, d4, d5] }
  | _ => none }
def cholLeftRow : OpenClaim := { program := "ytkhcdgkdpjahpaagreatdoor", sum := "300adb9a5831ffedc15f67d1cfbb0bd4ffe1f95962f4db5b46687a18231ca5bc", func := "sparse/sparselaw24.CholLeft", spec := "cholLeft", unfollowed := true, recurses := true, named := ["math/bits.deBruijn32tab"], apart := false, laid := [("math/bits.deBruijn32tab", laid_math_bits_deBruijn32tab)] }
def CholLeftSaid : Prop := cholLeftRow.holds Tryz.pinned (OpenSpec.ofChange cholLeftSpec)

/-- ITS FALSE NEIGHBOUR: 'it returns false'. Refute it at one input. -/
def cholLeftWrong : ChangeSpec := { name := "cholLeft", fn := fun _ => fun
  | [d1, d2, d3, d4, d5] => { results := [.lit (.bool false)], args := [d1, d2, d3, d4, d5] }
  | _ => none }
def CholLeftWrongFalsely : Prop := cholLeftRow.holds Tryz.pinned (OpenSpec.ofChange cholLeftWrong)

/-- 'sparselaw24.CholPattern': WHATEVER THE INPUT: true; the input reads as it did. -/
def cholPatternSpec : ChangeSpec := { name := "cholPattern", fn := fun _ => fun
  | [d1, d2, d3] => { results := [.lit (.bool true)], args := [d1, d2, d3] }
  | _ => none }
def cholPatternRow : OpenClaim := { program := "ytkhcdgkdpjahpaagreatdoor", sum := "300adb9a5831ffedc15f67d1cfbb0bd4ffe1f95962f4db5b46687a18231ca5bc", func := "sparse/sparselaw24.CholPattern", spec := "cholPattern", unfollowed := true, recurses := true, named := ["math/bits.deBruijn32tab"], apart := false, laid := [("math/bits.deBruijn32tab", laid_math_bits_deBruijn32tab)] }
def CholPatternSaid : Prop := cholPatternRow.holds Tryz.pinned (OpenSpec.ofChange cholPatternSpec)

/-- ITS FALSE NEIGHBOUR: 'it returns false'. Refute it at one input. -/
def cholPatternWrong : ChangeSpec := { name := "cholPattern", fn := fun _ => fun
  | [d1, d2, d3] => { results := [.lit (.bool false)], args := [d1, d2, d3] }
  | _ => none }
def CholPatternWrongFalsely : Prop := cholPatternRow.holds Tryz.pinned (OpenSpec.ofChange cholPatternWrong)

/-- 'sparselaw24.CholScales': WHATEVER THE INPUT: true; the input reads as it did. -/
def cholScalesSpec : ChangeSpec := { name := "cholScales", fn := fun _ => fun
  | [d1, d2, d3, d4] => { results := [.lit (.bool true)], args := [d1, d2, d3, d4] }
  | _ => none }
def cholScalesRow : OpenClaim := { program := "ytkhcdgkdpjahpaagreatdoor", sum := "300adb9a5831ffedc15f67d1cfbb0bd4ffe1f95962f4db5b46687a18231ca5bc", func := "sparse/sparselaw24.CholScales", spec := "cholScales", unfollowed := true, recurses := true, named := ["math/bits.deBruijn32tab"], apart := false, laid := [("math/bits.deBruijn32tab", laid_math_bits_deBruijn32tab)] }
def CholScalesSaid : Prop := cholScalesRow.holds Tryz.pinned (OpenSpec.ofChange cholScalesSpec)

/-- ITS FALSE NEIGHBOUR: 'it returns false'. Refute it at one input. -/
def cholScalesWrong : ChangeSpec := { name := "cholScales", fn := fun _ => fun
  | [d1, d2, d3, d4] => { results := [.lit (.bool false)], args := [d1, d2, d3, d4] }
  | _ => none }
def CholScalesWrongFalsely : Prop := cholScalesRow.holds Tryz.pinned (OpenSpec.ofChange cholScalesWrong)

/-- 'sparselaw24.CholErrors': WHATEVER THE INPUT: true; the input reads as it did. -/
def cholErrorsSpec : ChangeSpec := { name := "cholErrors", fn := fun _ => fun
  | [d1, d2, d3] => { results := [.lit (.bool true)], args := [d1, d2, d3] }
  | _ => none }
def cholErrorsRow : OpenClaim := { program := "ytkhcdgkdpjahpaagreatdoor", sum := "300adb9a5831ffedc15f67d1cfbb0bd4ffe1f95962f4db5b46687a18231ca5bc", func := "sparse/sparselaw24.CholErrors", spec := "cholErrors", unfollowed := true, recurses := true, named := ["math/bits.deBruijn32tab"], apart := false, laid := [("math/bits.deBruijn32tab", laid_math_bits_deBruijn32tab)] }
def CholErrorsSaid : Prop := cholErrorsRow.holds Tryz.pinned (OpenSpec.ofChange cholErrorsSpec)

/-- ITS FALSE NEIGHBOUR: 'it returns false'. Refute it at one input. -/
def cholErrorsWrong : ChangeSpec := { name := "cholErrors", fn := fun _ => fun
  | [d1, d2, d3] => { results := [.lit (.bool false)], args := [d1, d2, d3] }
  | _ => none }
def CholErrorsWrongFalsely : Prop := cholErrorsRow.holds Tryz.pinned (OpenSpec.ofChange cholErrorsWrong)

/-- 'sparselaw24.CholProducts': WHATEVER THE INPUT: true; the input reads as it did. -/
def cholProductsSpec : ChangeSpec := { name := "cholProducts", fn := fun _ => fun
  | [d1, d2, d3, d4] => { results := [.lit (.bool true)], args := [d1, d2, d3, d4] }
  | _ => none }
def cholProductsRow : OpenClaim := { program := "ytkhcdgkdpjahpaagreatdoor", sum := "300adb9a5831ffedc15f67d1cfbb0bd4ffe1f95962f4db5b46687a18231ca5bc", func := "sparse/sparselaw24.CholProducts", spec := "cholProducts", unfollowed := true, recurses := true, named := ["math/bits.deBruijn32tab"], apart := false, laid := [("math/bits.deBruijn32tab", laid_math_bits_deBruijn32tab)] }
def CholProductsSaid : Prop := cholProductsRow.holds Tryz.pinned (OpenSpec.ofChange cholProductsSpec)

/-- ITS FALSE NEIGHBOUR: 'it returns false'. Refute it at one input. -/
def cholProductsWrong : ChangeSpec := { name := "cholProducts", fn := fun _ => fun
  | [d1, d2, d3, d4] => { results := [.lit (.bool false)], args := [d1, d2, d3, d4] }
  | _ => none }
def CholProductsWrongFalsely : Prop := cholProductsRow.holds Tryz.pinned (OpenSpec.ofChange cholProductsWrong)

/-- 'sparselaw24.CholFronts': WHATEVER THE INPUT: true; the input reads as it did. -/
def cholFrontsSpec : ChangeSpec := { name := "cholFronts", fn := fun _ => fun
  | [d1, d2, d3, d4, d5] => { results := [.lit (.bool true)], args := [d1, d2, d3, d4, d5] }
  | _ => none }
def cholFrontsRow : OpenClaim := { program := "ytkhcdgkdpjahpaagreatdoor", sum := "300adb9a5831ffedc15f67d1cfbb0bd4ffe1f95962f4db5b46687a18231ca5bc", func := "sparse/sparselaw24.CholFronts", spec := "cholFronts", unfollowed := true, recurses := true, named := ["math/bits.deBruijn32tab"], apart := false, laid := [("math/bits.deBruijn32tab", laid_math_bits_deBruijn32tab)] }
def CholFrontsSaid : Prop := cholFrontsRow.holds Tryz.pinned (OpenSpec.ofChange cholFrontsSpec)

/-- ITS FALSE NEIGHBOUR: 'it returns false'. Refute it at one input. -/
def cholFrontsWrong : ChangeSpec := { name := "cholFronts", fn := fun _ => fun
  | [d1, d2, d3, d4, d5] => { results := [.lit (.bool false)], args := [d1, d2, d3, d4, d5] }
  | _ => none }
def CholFrontsWrongFalsely : Prop := cholFrontsRow.holds Tryz.pinned (OpenSpec.ofChange cholFrontsWrong)

/-- 'sparselaw24.CholBadFronts': WHATEVER THE INPUT: true; the input reads as it did. -/
def cholBadFrontsSpec : ChangeSpec := { name := "cholBadFronts", fn := fun _ => fun
  | [d1, d2, d3, d4, d5] => { results := [.lit (.bool true)], args := [d1, d2, d3, d4, d5] }
  | _ => none }
def cholBadFrontsRow : OpenClaim := { program := "ytkhcdgkdpjahpaagreatdoor", sum := "300adb9a5831ffedc15f67d1cfbb0bd4ffe1f95962f4db5b46687a18231ca5bc", func := "sparse/sparselaw24.CholBadFronts", spec := "cholBadFronts", unfollowed := true, recurses := true, named := ["math/bits.deBruijn32tab"], apart := false, laid := [("math/bits.deBruijn32tab", laid_math_bits_deBruijn32tab)] }
def CholBadFrontsSaid : Prop := cholBadFrontsRow.holds Tryz.pinned (OpenSpec.ofChange cholBadFrontsSpec)

/-- ITS FALSE NEIGHBOUR: 'it returns false'. Refute it at one input. -/
def cholBadFrontsWrong : ChangeSpec := { name := "cholBadFronts", fn := fun _ => fun
  | [d1, d2, d3, d4, d5] => { results := [.lit (.bool false)], args := [d1, d2, d3, d4, d5] }
  | _ => none }
def CholBadFrontsWrongFalsely : Prop := cholBadFrontsRow.holds Tryz.pinned (OpenSpec.ofChange cholBadFrontsWrong)

/-- 'sparselaw24.CholRefuses': WHATEVER THE INPUT: true; the input reads as it did. -/
def cholRefusesSpec : ChangeSpec := { name := "cholRefuses", fn := fun _ => fun
  | [d1, d2, d3, d4, d5] => { results := [.lit (.bool true)], args := [d1, d2, d3, d4, d5] }
  | _ => none }
def cholRefusesRow : OpenClaim := { program := "ytkhcdgkdpjahpaagreatdoor", sum := "300adb9a5831ffedc15f67d1cfbb0bd4ffe1f95962f4db5b46687a18231ca5bc", func := "sparse/sparselaw24.CholRefuses", spec := "cholRefuses", unfollowed := true, recurses := true, named := ["math/bits.deBruijn32tab"], apart := false, laid := [("math/bits.deBruijn32tab", laid_math_bits_deBruijn32tab)] }
def CholRefusesSaid : Prop := cholRefusesRow.holds Tryz.pinned (OpenSpec.ofChange cholRefusesSpec)

/-- ITS FALSE NEIGHBOUR: 'it returns false'. Refute it at one input. -/
def cholRefusesWrong : ChangeSpec := { name := "cholRefuses", fn := fun _ => fun
  | [d1, d2, d3, d4, d5] => { results := [.lit (.bool false)], args := [d1, d2, d3, d4, d5] }
  | _ => none }
def CholRefusesWrongFalsely : Prop := cholRefusesRow.holds Tryz.pinned (OpenSpec.ofChange cholRefusesWrong)

/- THE SECOND FORM. 'bulk': how many values and letters a reading holds, each counted each time it is reached (what is shared counts as often as it is met; a slice's spare places count too). A statement '..UptoSaid' is the law's where the arguments, and the package variables that the reading takes, are together of bulk at most 1048576: NARROWER than '..Said'. Prove '..Said' where nothing that the law and all that it calls make is longer than what came in: it says more and counts as full. Else prove '..UptoSaid'. A law counts once. -/
mutual
def uptoBulk {H : Type} : DataW H → Nat
  | .lit (.string bytes) => bytes.length + 1
  | .lit _ => 1
  | .nil => 1
  | .ptr d => uptoBulk d + 1
  | .slice elems spare => uptoBulkAll elems + uptoBulkAll spare + 1
  | .agg parts => uptoBulkAll parts + 1
  | .iface _ d => uptoBulk d + 1
  | .map entries => uptoBulkEntries entries + 1
  | .held _ => 1
def uptoBulkAll {H : Type} : List (DataW H) → Nat
  | [] => 0
  | d :: r => uptoBulk d + uptoBulkAll r
def uptoBulkEntries {H : Type} : List (Lit × DataW H) → Nat
  | [] => 0
  | x :: r => uptoBulkEntry x + uptoBulkEntries r
def uptoBulkEntry {H : Type} : Lit × DataW H → Nat
  | (.string bytes, d) => bytes.length + uptoBulk d + 1
  | (_, d) => uptoBulk d + 1
 end
def uptoSmall : (H : Type) → List (DataW H) → Bool := fun _ ds => decide (uptoBulkAll ds ≤ 1048576)
def OpenSpec.upto (s : _root_.Go.ChangeSpec) : _root_.Go.OpenSpec := { _root_.Go.OpenSpec.ofChange s with cond := some uptoSmall }

/-- 'sparselaw24.CholLeft', WHERE WHAT IT READS IS OF BULK AT MOST 1048576: true; the input reads as it did. -/
def cholLeftUptoRow : OpenClaim := { program := "ytkhcdgkdpjahpaagreatdoor", sum := "300adb9a5831ffedc15f67d1cfbb0bd4ffe1f95962f4db5b46687a18231ca5bc", func := "sparse/sparselaw24.CholLeft", spec := "cholLeft", unfollowed := true, recurses := true, named := ["math/bits.deBruijn32tab"], apart := false, laid := [("math/bits.deBruijn32tab", laid_math_bits_deBruijn32tab)], narrowed := true }
def CholLeftUptoSaid : Prop := cholLeftUptoRow.holds Tryz.pinned (OpenSpec.upto cholLeftSpec)

/-- 'sparselaw24.CholPattern', WHERE WHAT IT READS IS OF BULK AT MOST 1048576: true; the input reads as it did. -/
def cholPatternUptoRow : OpenClaim := { program := "ytkhcdgkdpjahpaagreatdoor", sum := "300adb9a5831ffedc15f67d1cfbb0bd4ffe1f95962f4db5b46687a18231ca5bc", func := "sparse/sparselaw24.CholPattern", spec := "cholPattern", unfollowed := true, recurses := true, named := ["math/bits.deBruijn32tab"], apart := false, laid := [("math/bits.deBruijn32tab", laid_math_bits_deBruijn32tab)], narrowed := true }
def CholPatternUptoSaid : Prop := cholPatternUptoRow.holds Tryz.pinned (OpenSpec.upto cholPatternSpec)

/-- 'sparselaw24.CholScales', WHERE WHAT IT READS IS OF BULK AT MOST 1048576: true; the input reads as it did. -/
def cholScalesUptoRow : OpenClaim := { program := "ytkhcdgkdpjahpaagreatdoor", sum := "300adb9a5831ffedc15f67d1cfbb0bd4ffe1f95962f4db5b46687a18231ca5bc", func := "sparse/sparselaw24.CholScales", spec := "cholScales", unfollowed := true, recurses := true, named := ["math/bits.deBruijn32tab"], apart := false, laid := [("math/bits.deBruijn32tab", laid_math_bits_deBruijn32tab)], narrowed := true }
def CholScalesUptoSaid : Prop := cholScalesUptoRow.holds Tryz.pinned (OpenSpec.upto cholScalesSpec)

/-- 'sparselaw24.CholErrors', WHERE WHAT IT READS IS OF BULK AT MOST 1048576: true; the input reads as it did. -/
def cholErrorsUptoRow : OpenClaim := { program := "ytkhcdgkdpjahpaagreatdoor", sum := "300adb9a5831ffedc15f67d1cfbb0bd4ffe1f95962f4db5b46687a18231ca5bc", func := "sparse/sparselaw24.CholErrors", spec := "cholErrors", unfollowed := true, recurses := true, named := ["math/bits.deBruijn32tab"], apart := false, laid := [("math/bits.deBruijn32tab", laid_math_bits_deBruijn32tab)], narrowed := true }
def CholErrorsUptoSaid : Prop := cholErrorsUptoRow.holds Tryz.pinned (OpenSpec.upto cholErrorsSpec)

/-- 'sparselaw24.CholProducts', WHERE WHAT IT READS IS OF BULK AT MOST 1048576: true; the input reads as it did. -/
def cholProductsUptoRow : OpenClaim := { program := "ytkhcdgkdpjahpaagreatdoor", sum := "300adb9a5831ffedc15f67d1cfbb0bd4ffe1f95962f4db5b46687a18231ca5bc", func := "sparse/sparselaw24.CholProducts", spec := "cholProducts", unfollowed := true, recurses := true, named := ["math/bits.deBruijn32tab"], apart := false, laid := [("math/bits.deBruijn32tab", laid_math_bits_deBruijn32tab)], narrowed := true }
def CholProductsUptoSaid : Prop := cholProductsUptoRow.holds Tryz.pinned (OpenSpec.upto cholProductsSpec)

/-- 'sparselaw24.CholFronts', WHERE WHAT IT READS IS OF BULK AT MOST 1048576: true; the input reads as it did. -/
def cholFrontsUptoRow : OpenClaim := { program := "ytkhcdgkdpjahpaagreatdoor", sum := "300adb9a5831ffedc15f67d1cfbb0bd4ffe1f95962f4db5b46687a18231ca5bc", func := "sparse/sparselaw24.CholFronts", spec := "cholFronts", unfollowed := true, recurses := true, named := ["math/bits.deBruijn32tab"], apart := false, laid := [("math/bits.deBruijn32tab", laid_math_bits_deBruijn32tab)], narrowed := true }
def CholFrontsUptoSaid : Prop := cholFrontsUptoRow.holds Tryz.pinned (OpenSpec.upto cholFrontsSpec)

/-- 'sparselaw24.CholBadFronts', WHERE WHAT IT READS IS OF BULK AT MOST 1048576: true; the input reads as it did. -/
def cholBadFrontsUptoRow : OpenClaim := { program := "ytkhcdgkdpjahpaagreatdoor", sum := "300adb9a5831ffedc15f67d1cfbb0bd4ffe1f95962f4db5b46687a18231ca5bc", func := "sparse/sparselaw24.CholBadFronts", spec := "cholBadFronts", unfollowed := true, recurses := true, named := ["math/bits.deBruijn32tab"], apart := false, laid := [("math/bits.deBruijn32tab", laid_math_bits_deBruijn32tab)], narrowed := true }
def CholBadFrontsUptoSaid : Prop := cholBadFrontsUptoRow.holds Tryz.pinned (OpenSpec.upto cholBadFrontsSpec)

/-- 'sparselaw24.CholRefuses', WHERE WHAT IT READS IS OF BULK AT MOST 1048576: true; the input reads as it did. -/
def cholRefusesUptoRow : OpenClaim := { program := "ytkhcdgkdpjahpaagreatdoor", sum := "300adb9a5831ffedc15f67d1cfbb0bd4ffe1f95962f4db5b46687a18231ca5bc", func := "sparse/sparselaw24.CholRefuses", spec := "cholRefuses", unfollowed := true, recurses := true, named := ["math/bits.deBruijn32tab"], apart := false, laid := [("math/bits.deBruijn32tab", laid_math_bits_deBruijn32tab)], narrowed := true }
def CholRefusesUptoSaid : Prop := cholRefusesUptoRow.holds Tryz.pinned (OpenSpec.upto cholRefusesSpec)

end Rows
end Go.Proofs.YtkhcdgkdpjahpaaGreatDoor
