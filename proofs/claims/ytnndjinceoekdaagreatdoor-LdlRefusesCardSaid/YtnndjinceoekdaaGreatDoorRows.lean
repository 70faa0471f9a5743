/-
  NARROWER THAN 'FOR EVERY INPUT', by the rows' own cells (each row's printed sentence says how): LdlFactors: laid · LdlZeros: laid · LdlInertia: laid · LdlDiagonal: laid · LdlRefuses: laid · LdlReads: laid · LdlIntegers: laid.
  DERIVED. THE GIVEN ROWS OF THIS SEAT. 7 by the template 'for every input the law returns true; each argument reads behind the call as it read before'; 0 by the template 'total and deterministic' (their statements: YtnndjinceoekdaaGreatDoorTotals.lean).
  GIVEN WITH THE SEED: the statements are not yours to turn. If you find one false, say at which input.
  Laid BY PROGRAM, IN A SANDBOX (cutbox-rows.mjs): the forced cells as the released guide's own fill.sh prints them over the translation 094546bf8a0dd5e5… (all of the seat's roots in one cut). By AI agents, Wed Nov 11 2026. No macro, syntax, notation, axiom, sorry.
-/
import Derived.Test.YtnndjinceoekdaaGreatDoorChecked
import GoSem.Claim
import GoSem.ClaimJoined
import GoSem.ClaimMapViews
import Derived.JoinedTies
import Derived.KernelRfl
namespace Go.Proofs.YtnndjinceoekdaaGreatDoor
/- THE CELL 'sum', in the pinned program and in every row, IS THE sha256 OF THE DUMP (.gsa) THAT YtnndjinceoekdaaGreatDoorProg.lean LOADS. Nothing in Lean hashes anything: it is a label: what it is worth is what the hold of that sum in a sandbox is worth. -/
noncomputable def Tryz.pinned : Pinned := { name := "ytnndjinceoekdaagreatdoor", sum := "094546bf8a0dd5e5cd733c9afc88d7109cfb0219ed5cadbcbe080b8489dbe5a6", checked := Tryz.checked }
namespace Rows
def none {H : Type} : Left H := { results := [], args := [] }

/- WHAT THE LISTED PACKAGE-LEVEL VARIABLES READ AS WHEN THE CALL BEGINS. Each datum BY PROGRAM (the guide's laid-datum.mjs) off the statement by which the dump's own 'gosem.cut.vars' lays the variable. In a bare row this is a premise. The card (YtnndjinceoekdaaGreatDoorCards.lean) ties it to the program's text. -/
def laid_math_bits_deBruijn32tab {H : Type} : DataW H := .agg [.lit (.int .u8 0), .lit (.int .u8 1), .lit (.int .u8 28), .lit (.int .u8 2), .lit (.int .u8 29), .lit (.int .u8 14), .lit (.int .u8 24), .lit (.int .u8 3), .lit (.int .u8 30), .lit (.int .u8 22), .lit (.int .u8 20), .lit (.int .u8 15), .lit (.int .u8 25), .lit (.int .u8 17), .lit (.int .u8 4), .lit (.int .u8 8), .lit (.int .u8 31), .lit (.int .u8 27), .lit (.int .u8 13), .lit (.int .u8 23), .lit (.int .u8 21), .lit (.int .u8 19), .lit (.int .u8 16), .lit (.int .u8 7), .lit (.int .u8 26), .lit (.int .u8 12), .lit (.int .u8 18), .lit (.int .u8 6), .lit (.int .u8 11), .lit (.int .u8 5), .lit (.int .u8 10), .lit (.int .u8 9)]

/-- 'sparselaw25.LdlFactors': WHATEVER THE INPUT: true; the input reads as it did. -/
def ldlFactorsSpec : ChangeSpec := { name := "ldlFactors", fn := fun _ => fun
  | [d1, d2, d3, d4, d5] => { results := [.lit (.bool true)], args := [d1, d2, d3, d4, d5] }
  | _ => none }
def ldlFactorsRow : OpenClaim := { program := "ytnndjinceoekdaagreatdoor", sum := "094546bf8a0dd5e5cd733c9afc88d7109cfb0219ed5cadbcbe080b8489dbe5a6", func := "sparse/sparselaw25.LdlFactors", spec := "ldlFactors", unfollowed := true, recurses := true, named := ["math/bits.deBruijn32tab"], apart := false, laid := [("math/bits.deBruijn32tab", laid_math_bits_deBruijn32tab)] }
def LdlFactorsSaid : Prop := ldlFactorsRow.holds Tryz.pinned (OpenSpec.ofChange ldlFactorsSpec)

/-- ITS FALSE NEIGHBOUR: 'it returns false'. Refute it at one input. -/
def ldlFactorsWrong : ChangeSpec := { name := "ldlFactors", fn := fun _ => fun
  | [d1, d2, d3, d4, d5] => { results := [.lit (.bool false)], args := [d1, d2, d3, d4, d5] }
  | _ => none }
def LdlFactorsWrongFalsely : Prop := ldlFactorsRow.holds Tryz.pinned (OpenSpec.ofChange ldlFactorsWrong)

/-- 'sparselaw25.LdlZeros': WHATEVER THE INPUT: true; the input reads as it did. -/
def ldlZerosSpec : ChangeSpec := { name := "ldlZeros", fn := fun _ => fun
  | [d1, d2, d3, d4] => { results := [.lit (.bool true)], args := [d1, d2, d3, d4] }
  | _ => none }
def ldlZerosRow : OpenClaim := { program := "ytnndjinceoekdaagreatdoor", sum := "094546bf8a0dd5e5cd733c9afc88d7109cfb0219ed5cadbcbe080b8489dbe5a6", func := "sparse/sparselaw25.LdlZeros", spec := "ldlZeros", unfollowed := true, recurses := true, named := ["math/bits.deBruijn32tab"], apart := false, laid := [("math/bits.deBruijn32tab", laid_math_bits_deBruijn32tab)] }
def LdlZerosSaid : Prop := ldlZerosRow.holds Tryz.pinned (OpenSpec.ofChange ldlZerosSpec)

/-- ITS FALSE NEIGHBOUR: 'it returns false'. Refute it at one input. -/
def ldlZerosWrong : ChangeSpec := { name := "ldlZeros", fn := fun _ => fun
  | [d1, d2, d3, d4] => { results := [.lit (.bool false)], args := [d1, d2, d3, d4] }
  | _ => none }
def LdlZerosWrongFalsely : Prop := ldlZerosRow.holds Tryz.pinned (OpenSpec.ofChange ldlZerosWrong)

/-- 'sparselaw25.LdlInertia': WHATEVER THE INPUT: true; the input reads as it did. -/
def ldlInertiaSpec : ChangeSpec := { name := "ldlInertia", fn := fun _ => fun
  | [d1, d2, d3] => { results := [.lit (.bool true)], args := [d1, d2, d3] }
  | _ => none }
def ldlInertiaRow : OpenClaim := { program := "ytnndjinceoekdaagreatdoor", sum := "094546bf8a0dd5e5cd733c9afc88d7109cfb0219ed5cadbcbe080b8489dbe5a6", func := "sparse/sparselaw25.LdlInertia", spec := "ldlInertia", unfollowed := true, recurses := true, named := ["math/bits.deBruijn32tab"], apart := false, laid := [("math/bits.deBruijn32tab", laid_math_bits_deBruijn32tab)] }
def LdlInertiaSaid : Prop := ldlInertiaRow.holds Tryz.pinned (OpenSpec.ofChange ldlInertiaSpec)

/-- ITS FALSE NEIGHBOUR: 'it returns false'. Refute it at one input. -/
def ldlInertiaWrong : ChangeSpec := { name := "ldlInertia", fn := fun _ => fun
  | [d1, d2, d3] => { results := [.lit (.bool false)], args := [d1, d2, d3] }
  | _ => none }
def LdlInertiaWrongFalsely : Prop := ldlInertiaRow.holds Tryz.pinned (OpenSpec.ofChange ldlInertiaWrong)

/-- 'sparselaw25.LdlDiagonal': WHATEVER THE INPUT: true; the input reads as it did. -/
def ldlDiagonalSpec : ChangeSpec := { name := "ldlDiagonal", fn := fun _ => fun
  | [d1, d2, d3] => { results := [.lit (.bool true)], args := [d1, d2, d3] }
  | _ => none }
def ldlDiagonalRow : OpenClaim := { program := "ytnndjinceoekdaagreatdoor", sum := "094546bf8a0dd5e5cd733c9afc88d7109cfb0219ed5cadbcbe080b8489dbe5a6", func := "sparse/sparselaw25.LdlDiagonal", spec := "ldlDiagonal", unfollowed := true, recurses := true, named := ["math/bits.deBruijn32tab"], apart := false, laid := [("math/bits.deBruijn32tab", laid_math_bits_deBruijn32tab)] }
def LdlDiagonalSaid : Prop := ldlDiagonalRow.holds Tryz.pinned (OpenSpec.ofChange ldlDiagonalSpec)

/-- ITS FALSE NEIGHBOUR: 'it returns false'. Refute it at one input. -/
def ldlDiagonalWrong : ChangeSpec := { name := "ldlDiagonal", fn := fun _ => fun
  | [d1, d2, d3] => { results := [.lit (.bool false)], args := [d1, d2, d3] }
  | _ => none }
def LdlDiagonalWrongFalsely : Prop := ldlDiagonalRow.holds Tryz.pinned (OpenSpec.ofChange ldlDiagonalWrong)

/-- 'sparselaw25.LdlRefuses': WHATEVER THE INPUT: true; the input reads as it did. -/
def ldlRefusesSpec : ChangeSpec := { name := "ldlRefuses", fn := fun _ => fun
  | [d1, d2, d3, d4, d5] => { results := [.lit (.bool true)], args := [d1, d2, d3, d4, d5] }
  | _ => none }
def ldlRefusesRow : OpenClaim := { program := "ytnndjinceoekdaagreatdoor", sum := "094546bf8a0dd5e5cd733c9afc88d7109cfb0219ed5cadbcbe080b8489dbe5a6", func := "sparse/sparselaw25.LdlRefuses", spec := "ldlRefuses", unfollowed := true, recurses := true, named := ["math/bits.deBruijn32tab"], apart := false, laid := [("math/bits.deBruijn32tab", laid_math_bits_deBruijn32tab)] }
def LdlRefusesSaid : Prop := ldlRefusesRow.holds Tryz.pinned (OpenSpec.ofChange ldlRefusesSpec)

/-- ITS FALSE NEIGHBOUR: 'it returns false'. Refute it at one input. -/
def ldlRefusesWrong : ChangeSpec := { name := "ldlRefuses", fn := fun _ => fun
  | [d1, d2, d3, d4, d5] => { results := [.lit (.bool false)], args := [d1, d2, d3, d4, d5] }
  | _ => none }
def LdlRefusesWrongFalsely : Prop := ldlRefusesRow.holds Tryz.pinned (OpenSpec.ofChange ldlRefusesWrong)

/-- 'sparselaw25.LdlReads': WHATEVER THE INPUT: true; the input reads as it did. -/
def ldlReadsSpec : ChangeSpec := { name := "ldlReads", fn := fun _ => fun
  | [d1, d2, d3] => { results := [.lit (.bool true)], args := [d1, d2, d3] }
  | _ => none }
def ldlReadsRow : OpenClaim := { program := "ytnndjinceoekdaagreatdoor", sum := "094546bf8a0dd5e5cd733c9afc88d7109cfb0219ed5cadbcbe080b8489dbe5a6", func := "sparse/sparselaw25.LdlReads", spec := "ldlReads", unfollowed := true, recurses := true, named := ["math/bits.deBruijn32tab"], apart := false, laid := [("math/bits.deBruijn32tab", laid_math_bits_deBruijn32tab)] }
def LdlReadsSaid : Prop := ldlReadsRow.holds Tryz.pinned (OpenSpec.ofChange ldlReadsSpec)

/-- ITS FALSE NEIGHBOUR: 'it returns false'. Refute it at one input. -/
def ldlReadsWrong : ChangeSpec := { name := "ldlReads", fn := fun _ => fun
  | [d1, d2, d3] => { results := [.lit (.bool false)], args := [d1, d2, d3] }
  | _ => none }
def LdlReadsWrongFalsely : Prop := ldlReadsRow.holds Tryz.pinned (OpenSpec.ofChange ldlReadsWrong)

/-- 'sparselaw25.LdlIntegers': WHATEVER THE INPUT: true; the input reads as it did. -/
def ldlIntegersSpec : ChangeSpec := { name := "ldlIntegers", fn := fun _ => fun
  | [d1, d2] => { results := [.lit (.bool true)], args := [d1, d2] }
  | _ => none }
def ldlIntegersRow : OpenClaim := { program := "ytnndjinceoekdaagreatdoor", sum := "094546bf8a0dd5e5cd733c9afc88d7109cfb0219ed5cadbcbe080b8489dbe5a6", func := "sparse/sparselaw25.LdlIntegers", spec := "ldlIntegers", unfollowed := true, recurses := true, named := ["math/bits.deBruijn32tab"], apart := false, laid := [("math/bits.deBruijn32tab", laid_math_bits_deBruijn32tab)] }
def LdlIntegersSaid : Prop := ldlIntegersRow.holds Tryz.pinned (OpenSpec.ofChange ldlIntegersSpec)

/-- ITS FALSE NEIGHBOUR: 'it returns false'. Refute it at one input. -/
def ldlIntegersWrong : ChangeSpec := { name := "ldlIntegers", fn := fun _ => fun
  | [d1, d2] => { results := [.lit (.bool false)], args := [d1, d2] }
  | _ => none }
def LdlIntegersWrongFalsely : Prop := ldlIntegersRow.holds Tryz.pinned (OpenSpec.ofChange ldlIntegersWrong)

/- THE SECOND FORM. 'bulk': how many values and letters a reading holds, each counted each time it is reached (what is shared counts as often as it is met; a slice's spare places count too). A statement '..UptoSaid' is the law's where the arguments, and the package variables that the reading takes, are together of bulk at most 1048576: NARROWER than '..Said'. Prove '..Said' where nothing that the law and all that it calls make is longer than what came in: it says more and counts as full. Else prove '..UptoSaid'. A law counts once. -/
mutual
def uptoBulk {H : Type} : DataW H → Nat
  | .lit (.string bytes) => bytes.length + 1
  | .lit _ => 1
  | .nil => 1
  | .ptr d => uptoBulk d + 1
  | .slice elems spare => uptoBulkAll elems + uptoBulkAll spare + 1
  | .agg parts => uptoBulkAll parts + 1
  | .iface _ d => uptoBulk d + 1
  | .map entries => uptoBulkEntries entries + 1
  | .held _ => 1
def uptoBulkAll {H : Type} : List (DataW H) → Nat
  | [] => 0
  | d :: r => uptoBulk d + uptoBulkAll r
def uptoBulkEntries {H : Type} : List (Lit × DataW H) → Nat
  | [] => 0
  | x :: r => uptoBulkEntry x + uptoBulkEntries r
def uptoBulkEntry {H : Type} : Lit × DataW H → Nat
  | (.string bytes, d) => bytes.length + uptoBulk d + 1
  | (_, d) => uptoBulk d + 1
 end
def uptoSmall : (H : Type) → List (DataW H) → Bool := fun _ ds => decide (uptoBulkAll ds ≤ 1048576)
def OpenSpec.upto (s : _root_.Go.ChangeSpec) : _root_.Go.OpenSpec := { _root_.Go.OpenSpec.ofChange s with cond := some uptoSmall }

/-- 'sparselaw25.LdlFactors', WHERE WHAT IT READS IS OF BULK AT MOST 1048576: true; the input reads as it did. -/
def ldlFactorsUptoRow : OpenClaim := { program := "ytnndjinceoekdaagreatdoor", sum := "094546bf8a0dd5e5cd733c9afc88d7109cfb0219ed5cadbcbe080b8489dbe5a6", func := "sparse/sparselaw25.LdlFactors", spec := "ldlFactors", unfollowed := true, recurses := true, named := ["math/bits.deBruijn32tab"], apart := false, laid := [("math/bits.deBruijn32tab", laid_math_bits_deBruijn32tab)], narrowed := true }
def LdlFactorsUptoSaid : Prop := ldlFactorsUptoRow.holds Tryz.pinned (OpenSpec.upto ldlFactorsSpec)

/-- 'sparselaw25.LdlZeros', WHERE WHAT IT READS IS OF BULK AT MOST 1048576: true; the input reads as it did. -/
def ldlZerosUptoRow : OpenClaim := { program := "ytnndjinceoekdaagreatdoor", sum := "094546bf8a0dd5e5cd733c9afc88d7109cfb0219ed5cadbcbe080b8489dbe5a6", func := "sparse/sparselaw25.LdlZeros", spec := "ldlZeros", unfollowed := true, recurses := true, named := ["math/bits.deBruijn32tab"], apart := false, laid := [("math/bits.deBruijn32tab", laid_math_bits_deBruijn32tab)], narrowed := true }
def LdlZerosUptoSaid : Prop := ldlZerosUptoRow.holds Tryz.pinned (OpenSpec.upto ldlZerosSpec)

/-- 'sparselaw25.LdlInertia', WHERE WHAT IT READS IS OF BULK AT MOST 1048576: true; the input reads as it did. -/
def ldlInertiaUptoRow : OpenClaim := { program := "ytnndjinceoekdaagreatdoor", sum := "094546bf8a0dd5e5cd733c9afc88d7109cfb0219ed5cadbcbe080b8489dbe5a6", func := "sparse/sparselaw25.LdlInertia", spec := "ldlInertia", unfollowed := true, recurses := true, named := ["math/bits.deBruijn32tab"], apart := false, laid := [("math/bits.deBruijn32tab", laid_math_bits_deBruijn32tab)], narrowed := true }
def LdlInertiaUptoSaid : Prop := ldlInertiaUptoRow.holds Tryz.pinned (OpenSpec.upto ldlInertiaSpec)

/-- 'sparselaw25.LdlDiagonal', WHERE WHAT IT READS IS OF BULK AT MOST 1048576: true; the input reads as it did. -/
def ldlDiagonalUptoRow : OpenClaim := { program := "ytnndjinceoekdaagreatdoor", sum := "094546bf8a0dd5e5cd733c9afc88d7109cfb0219ed5cadbcbe080b8489dbe5a6", func := "sparse/sparselaw25.LdlDiagonal", spec := "ldlDiagonal", unfollowed := true, recurses := true, named := ["math/bits.deBruijn32tab"], apart := false, laid := [("math/bits.deBruijn32tab", laid_math_bits_deBruijn32tab)], narrowed := true }
def LdlDiagonalUptoSaid : Prop := ldlDiagonalUptoRow.holds Tryz.pinned (OpenSpec.upto ldlDiagonalSpec)

/-- 'sparselaw25.LdlRefuses', WHERE WHAT IT READS IS OF BULK AT MOST 1048576: true; the input reads as it did. -/
def ldlRefusesUptoRow : OpenClaim := { program := "ytnndjinceoekdaagreatdoor", sum := "094546bf8a0dd5e5cd733c9afc88d7109cfb0219ed5cadbcbe080b8489dbe5a6", func := "sparse/sparselaw25.LdlRefuses", spec := "ldlRefuses", unfollowed := true, recurses := true, named := ["math/bits.deBruijn32tab"], apart := false, laid := [("math/bits.deBruijn32tab", laid_math_bits_deBruijn32tab)], narrowed := true }
def LdlRefusesUptoSaid : Prop := ldlRefusesUptoRow.holds Tryz.pinned (OpenSpec.upto ldlRefusesSpec)

/-- 'sparselaw25.LdlReads', WHERE WHAT IT READS IS OF BULK AT MOST 1048576: true; the input reads as it did. -/
def ldlReadsUptoRow : OpenClaim := { program := "ytnndjinceoekdaagreatdoor", sum := "094546bf8a0dd5e5cd733c9afc88d7109cfb0219ed5cadbcbe080b8489dbe5a6", func := "sparse/sparselaw25.LdlReads", spec := "ldlReads", unfollowed := true, recurses := true, named := ["math/bits.deBruijn32tab"], apart := false, laid := [("math/bits.deBruijn32tab", laid_math_bits_deBruijn32tab)], narrowed := true }
def LdlReadsUptoSaid : Prop := ldlReadsUptoRow.holds Tryz.pinned (OpenSpec.upto ldlReadsSpec)

/-- 'sparselaw25.LdlIntegers', WHERE WHAT IT READS IS OF BULK AT MOST 1048576: true; the input reads as it did. -/
def ldlIntegersUptoRow : OpenClaim := { program := "ytnndjinceoekdaagreatdoor", sum := "094546bf8a0dd5e5cd733c9afc88d7109cfb0219ed5cadbcbe080b8489dbe5a6", func := "sparse/sparselaw25.LdlIntegers", spec := "ldlIntegers", unfollowed := true, recurses := true, named := ["math/bits.deBruijn32tab"], apart := false, laid := [("math/bits.deBruijn32tab", laid_math_bits_deBruijn32tab)], narrowed := true }
def LdlIntegersUptoSaid : Prop := ldlIntegersUptoRow.holds Tryz.pinned (OpenSpec.upto ldlIntegersSpec)

end Rows
end Go.Proofs.YtnndjinceoekdaaGreatDoor
