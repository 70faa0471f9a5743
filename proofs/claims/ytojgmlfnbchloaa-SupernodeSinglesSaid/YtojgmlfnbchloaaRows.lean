/-
  No cell of these rows narrows 'for every input' (looked for: loops, veiled, ifaces, maps, wideKeys, modest, calm, conditions, laid).
  DERIVED. THE GIVEN ROWS OF THIS SEAT. 7 by the template 'for every input the law returns true; each argument reads behind the call as it read before'; 0 by the template 'total and deterministic' (their statements: YtojgmlfnbchloaaTotals.lean).
  GIVEN WITH THE SEED: the statements are not yours to turn. If you find one false, say at which input.
  Laid BY PROGRAM, IN A SANDBOX (cutbox-rows.mjs): the forced cells as the released guide's own fill.sh prints them over the translation 7c23bd20b75010c0… (all of the seat's roots in one cut). By AI agents, Wed Nov 11 2026. No macro, syntax, notation, axiom, sorry.
-/
import Derived.Test.YtojgmlfnbchloaaChecked
import GoSem.Claim
import GoSem.ClaimJoined
import GoSem.ClaimMapViews
import Derived.JoinedTies
import Derived.KernelRfl
namespace Go.Proofs.Ytojgmlfnbchloaa
/- THE CELL 'sum', in the pinned program and in every row, IS THE sha256 OF THE DUMP (.gsa) THAT YtojgmlfnbchloaaProg.lean LOADS. Nothing in Lean hashes anything: it is a label: what it is worth is what the hold of that sum in a sandbox is worth. -/
noncomputable def Try.pinned : Pinned := { name := "ytojgmlfnbchloaa", sum := "7c23bd20b75010c0fd55cdebd78afc3ee54d523f3f9046e8867aa27a703b32ea", checked := Try.checked }
namespace Rows
def none {H : Type} : Left H := { results := [], args := [] }

/-- 'sparselaw21.SupernodeAny': WHATEVER THE INPUT: true; the input reads as it did. -/
def supernodeAnySpec : ChangeSpec := { name := "supernodeAny", fn := fun _ => fun
  | [d1, d2, d3, d4] => { results := [.lit (.bool true)], args := [d1, d2, d3, d4] }
  | _ => none }
def supernodeAnyRow : OpenClaim := { program := "ytojgmlfnbchloaa", sum := "7c23bd20b75010c0fd55cdebd78afc3ee54d523f3f9046e8867aa27a703b32ea", func := "sparse/sparselaw21.SupernodeAny", spec := "supernodeAny", unfollowed := true, recurses := true, apart := false }
def SupernodeAnySaid : Prop := supernodeAnyRow.holds Try.pinned (OpenSpec.ofChange supernodeAnySpec)

/-- ITS FALSE NEIGHBOUR: 'it returns false'. Refute it at one input. -/
def supernodeAnyWrong : ChangeSpec := { name := "supernodeAny", fn := fun _ => fun
  | [d1, d2, d3, d4] => { results := [.lit (.bool false)], args := [d1, d2, d3, d4] }
  | _ => none }
def SupernodeAnyWrongFalsely : Prop := supernodeAnyRow.holds Try.pinned (OpenSpec.ofChange supernodeAnyWrong)

/-- 'sparselaw21.SupernodeMade': WHATEVER THE INPUT: true; the input reads as it did. -/
def supernodeMadeSpec : ChangeSpec := { name := "supernodeMade", fn := fun _ => fun
  | [d1, d2, d3] => { results := [.lit (.bool true)], args := [d1, d2, d3] }
  | _ => none }
def supernodeMadeRow : OpenClaim := { program := "ytojgmlfnbchloaa", sum := "7c23bd20b75010c0fd55cdebd78afc3ee54d523f3f9046e8867aa27a703b32ea", func := "sparse/sparselaw21.SupernodeMade", spec := "supernodeMade", unfollowed := true, recurses := true, apart := false }
def SupernodeMadeSaid : Prop := supernodeMadeRow.holds Try.pinned (OpenSpec.ofChange supernodeMadeSpec)

/-- ITS FALSE NEIGHBOUR: 'it returns false'. Refute it at one input. -/
def supernodeMadeWrong : ChangeSpec := { name := "supernodeMade", fn := fun _ => fun
  | [d1, d2, d3] => { results := [.lit (.bool false)], args := [d1, d2, d3] }
  | _ => none }
def SupernodeMadeWrongFalsely : Prop := supernodeMadeRow.holds Try.pinned (OpenSpec.ofChange supernodeMadeWrong)

/-- 'sparselaw21.SupernodeZeros': WHATEVER THE INPUT: true; the input reads as it did. -/
def supernodeZerosSpec : ChangeSpec := { name := "supernodeZeros", fn := fun _ => fun
  | [d1, d2, d3] => { results := [.lit (.bool true)], args := [d1, d2, d3] }
  | _ => none }
def supernodeZerosRow : OpenClaim := { program := "ytojgmlfnbchloaa", sum := "7c23bd20b75010c0fd55cdebd78afc3ee54d523f3f9046e8867aa27a703b32ea", func := "sparse/sparselaw21.SupernodeZeros", spec := "supernodeZeros", unfollowed := true, recurses := true, apart := false }
def SupernodeZerosSaid : Prop := supernodeZerosRow.holds Try.pinned (OpenSpec.ofChange supernodeZerosSpec)

/-- ITS FALSE NEIGHBOUR: 'it returns false'. Refute it at one input. -/
def supernodeZerosWrong : ChangeSpec := { name := "supernodeZeros", fn := fun _ => fun
  | [d1, d2, d3] => { results := [.lit (.bool false)], args := [d1, d2, d3] }
  | _ => none }
def SupernodeZerosWrongFalsely : Prop := supernodeZerosRow.holds Try.pinned (OpenSpec.ofChange supernodeZerosWrong)

/-- 'sparselaw21.SupernodeFronts': WHATEVER THE INPUT: true; the input reads as it did. -/
def supernodeFrontsSpec : ChangeSpec := { name := "supernodeFronts", fn := fun _ => fun
  | [d1, d2, d3] => { results := [.lit (.bool true)], args := [d1, d2, d3] }
  | _ => none }
def supernodeFrontsRow : OpenClaim := { program := "ytojgmlfnbchloaa", sum := "7c23bd20b75010c0fd55cdebd78afc3ee54d523f3f9046e8867aa27a703b32ea", func := "sparse/sparselaw21.SupernodeFronts", spec := "supernodeFronts", unfollowed := true, recurses := true, apart := false }
def SupernodeFrontsSaid : Prop := supernodeFrontsRow.holds Try.pinned (OpenSpec.ofChange supernodeFrontsSpec)

/-- ITS FALSE NEIGHBOUR: 'it returns false'. Refute it at one input. -/
def supernodeFrontsWrong : ChangeSpec := { name := "supernodeFronts", fn := fun _ => fun
  | [d1, d2, d3] => { results := [.lit (.bool false)], args := [d1, d2, d3] }
  | _ => none }
def SupernodeFrontsWrongFalsely : Prop := supernodeFrontsRow.holds Try.pinned (OpenSpec.ofChange supernodeFrontsWrong)

/-- 'sparselaw21.SupernodeContains': WHATEVER THE INPUT: true; the input reads as it did. -/
def supernodeContainsSpec : ChangeSpec := { name := "supernodeContains", fn := fun _ => fun
  | [d1, d2, d3, d4] => { results := [.lit (.bool true)], args := [d1, d2, d3, d4] }
  | _ => none }
def supernodeContainsRow : OpenClaim := { program := "ytojgmlfnbchloaa", sum := "7c23bd20b75010c0fd55cdebd78afc3ee54d523f3f9046e8867aa27a703b32ea", func := "sparse/sparselaw21.SupernodeContains", spec := "supernodeContains", unfollowed := true, recurses := true, apart := false }
def SupernodeContainsSaid : Prop := supernodeContainsRow.holds Try.pinned (OpenSpec.ofChange supernodeContainsSpec)

/-- ITS FALSE NEIGHBOUR: 'it returns false'. Refute it at one input. -/
def supernodeContainsWrong : ChangeSpec := { name := "supernodeContains", fn := fun _ => fun
  | [d1, d2, d3, d4] => { results := [.lit (.bool false)], args := [d1, d2, d3, d4] }
  | _ => none }
def SupernodeContainsWrongFalsely : Prop := supernodeContainsRow.holds Try.pinned (OpenSpec.ofChange supernodeContainsWrong)

/-- 'sparselaw21.SupernodeOrder': WHATEVER THE INPUT: true; the input reads as it did. -/
def supernodeOrderSpec : ChangeSpec := { name := "supernodeOrder", fn := fun _ => fun
  | [d1, d2] => { results := [.lit (.bool true)], args := [d1, d2] }
  | _ => none }
def supernodeOrderRow : OpenClaim := { program := "ytojgmlfnbchloaa", sum := "7c23bd20b75010c0fd55cdebd78afc3ee54d523f3f9046e8867aa27a703b32ea", func := "sparse/sparselaw21.SupernodeOrder", spec := "supernodeOrder", unfollowed := true, recurses := true, apart := false }
def SupernodeOrderSaid : Prop := supernodeOrderRow.holds Try.pinned (OpenSpec.ofChange supernodeOrderSpec)

/-- ITS FALSE NEIGHBOUR: 'it returns false'. Refute it at one input. -/
def supernodeOrderWrong : ChangeSpec := { name := "supernodeOrder", fn := fun _ => fun
  | [d1, d2] => { results := [.lit (.bool false)], args := [d1, d2] }
  | _ => none }
def SupernodeOrderWrongFalsely : Prop := supernodeOrderRow.holds Try.pinned (OpenSpec.ofChange supernodeOrderWrong)

/-- 'sparselaw21.SupernodeSingles': WHATEVER THE INPUT: true; the input reads as it did. -/
def supernodeSinglesSpec : ChangeSpec := { name := "supernodeSingles", fn := fun _ => fun
  | [d1, d2] => { results := [.lit (.bool true)], args := [d1, d2] }
  | _ => none }
def supernodeSinglesRow : OpenClaim := { program := "ytojgmlfnbchloaa", sum := "7c23bd20b75010c0fd55cdebd78afc3ee54d523f3f9046e8867aa27a703b32ea", func := "sparse/sparselaw21.SupernodeSingles", spec := "supernodeSingles", unfollowed := true, recurses := true, apart := false }
def SupernodeSinglesSaid : Prop := supernodeSinglesRow.holds Try.pinned (OpenSpec.ofChange supernodeSinglesSpec)

/-- ITS FALSE NEIGHBOUR: 'it returns false'. Refute it at one input. -/
def supernodeSinglesWrong : ChangeSpec := { name := "supernodeSingles", fn := fun _ => fun
  | [d1, d2] => { results := [.lit (.bool false)], args := [d1, d2] }
  | _ => none }
def SupernodeSinglesWrongFalsely : Prop := supernodeSinglesRow.holds Try.pinned (OpenSpec.ofChange supernodeSinglesWrong)

/- THE SECOND FORM. 'bulk': how many values and letters a reading holds, each counted each time it is reached (what is shared counts as often as it is met; a slice's spare places count too). A statement '..UptoSaid' is the law's where the arguments, and the package variables that the reading takes, are together of bulk at most 1048576: NARROWER than '..Said'. Prove '..Said' where nothing that the law and all that it calls make is longer than what came in: it says more and counts as full. Else prove '..UptoSaid'. A law counts once. -/
mutual
def uptoBulk {H : Type} : DataW H → Nat
  | .lit (.string bytes) => bytes.length + 1
  | .lit _ => 1
  | .nil => 1
  | .ptr d => uptoBulk d + 1
  | .slice elems spare => uptoBulkAll elems + uptoBulkAll spare + 1
  | .agg parts => uptoBulkAll parts + 1
  | .iface _ d => uptoBulk d + 1
  | .map entries => uptoBulkEntries entries + 1
  | .held _ => 1
def uptoBulkAll {H : Type} : List (DataW H) → Nat
  | [] => 0
  | d :: r => uptoBulk d + uptoBulkAll r
def uptoBulkEntries {H : Type} : List (Lit × DataW H) → Nat
  | [] => 0
  | x :: r => uptoBulkEntry x + uptoBulkEntries r
def uptoBulkEntry {H : Type} : Lit × DataW H → Nat
  | (.string bytes, d) => bytes.length + uptoBulk d + 1
  | (_, d) => uptoBulk d + 1
 end
def uptoSmall : (H : Type) → List (DataW H) → Bool := fun _ ds => decide (uptoBulkAll ds ≤ 1048576)
def OpenSpec.upto (s : _root_.Go.ChangeSpec) : _root_.Go.OpenSpec := { _root_.Go.OpenSpec.ofChange s with cond := some uptoSmall }

/-- 'sparselaw21.SupernodeAny', WHERE WHAT IT READS IS OF BULK AT MOST 1048576: true; the input reads as it did. -/
def supernodeAnyUptoRow : OpenClaim := { program := "ytojgmlfnbchloaa", sum := "7c23bd20b75010c0fd55cdebd78afc3ee54d523f3f9046e8867aa27a703b32ea", func := "sparse/sparselaw21.SupernodeAny", spec := "supernodeAny", unfollowed := true, recurses := true, apart := false, narrowed := true }
def SupernodeAnyUptoSaid : Prop := supernodeAnyUptoRow.holds Try.pinned (OpenSpec.upto supernodeAnySpec)

/-- 'sparselaw21.SupernodeMade', WHERE WHAT IT READS IS OF BULK AT MOST 1048576: true; the input reads as it did. -/
def supernodeMadeUptoRow : OpenClaim := { program := "ytojgmlfnbchloaa", sum := "7c23bd20b75010c0fd55cdebd78afc3ee54d523f3f9046e8867aa27a703b32ea", func := "sparse/sparselaw21.SupernodeMade", spec := "supernodeMade", unfollowed := true, recurses := true, apart := false, narrowed := true }
def SupernodeMadeUptoSaid : Prop := supernodeMadeUptoRow.holds Try.pinned (OpenSpec.upto supernodeMadeSpec)

/-- 'sparselaw21.SupernodeZeros', WHERE WHAT IT READS IS OF BULK AT MOST 1048576: true; the input reads as it did. -/
def supernodeZerosUptoRow : OpenClaim := { program := "ytojgmlfnbchloaa", sum := "7c23bd20b75010c0fd55cdebd78afc3ee54d523f3f9046e8867aa27a703b32ea", func := "sparse/sparselaw21.SupernodeZeros", spec := "supernodeZeros", unfollowed := true, recurses := true, apart := false, narrowed := true }
def SupernodeZerosUptoSaid : Prop := supernodeZerosUptoRow.holds Try.pinned (OpenSpec.upto supernodeZerosSpec)

/-- 'sparselaw21.SupernodeFronts', WHERE WHAT IT READS IS OF BULK AT MOST 1048576: true; the input reads as it did. -/
def supernodeFrontsUptoRow : OpenClaim := { program := "ytojgmlfnbchloaa", sum := "7c23bd20b75010c0fd55cdebd78afc3ee54d523f3f9046e8867aa27a703b32ea", func := "sparse/sparselaw21.SupernodeFronts", spec := "supernodeFronts", unfollowed := true, recurses := true, apart := false, narrowed := true }
def SupernodeFrontsUptoSaid : Prop := supernodeFrontsUptoRow.holds Try.pinned (OpenSpec.upto supernodeFrontsSpec)

/-- 'sparselaw21.SupernodeContains', WHERE WHAT IT READS IS OF BULK AT MOST 1048576: true; the input reads as it did. -/
def supernodeContainsUptoRow : OpenClaim := { program := "ytojgmlfnbchloaa", sum := "7c23bd20b75010c0fd55cdebd78afc3ee54d523f3f9046e8867aa27a703b32ea", func := "sparse/sparselaw21.SupernodeContains", spec := "supernodeContains", unfollowed := true, recurses := true, apart := false, narrowed := true }
def SupernodeContainsUptoSaid : Prop := supernodeContainsUptoRow.holds Try.pinned (OpenSpec.upto supernodeContainsSpec)

/-- 'sparselaw21.SupernodeOrder', WHERE WHAT IT READS IS OF BULK AT MOST 1048576: true; the input reads as it did. -/
def supernodeOrderUptoRow : OpenClaim := { program := "ytojgmlfnbchloaa", sum := "7c23bd20b75010c0fd55cdebd78afc3ee54d523f3f9046e8867aa27a703b32ea", func := "sparse/sparselaw21.SupernodeOrder", spec := "supernodeOrder", unfollowed := true, recurses := true, apart := false, narrowed := true }
def SupernodeOrderUptoSaid : Prop := supernodeOrderUptoRow.holds Try.pinned (OpenSpec.upto supernodeOrderSpec)

/-- 'sparselaw21.SupernodeSingles', WHERE WHAT IT READS IS OF BULK AT MOST 1048576: true; the input reads as it did. -/
def supernodeSinglesUptoRow : OpenClaim := { program := "ytojgmlfnbchloaa", sum := "7c23bd20b75010c0fd55cdebd78afc3ee54d523f3f9046e8867aa27a703b32ea", func := "sparse/sparselaw21.SupernodeSingles", spec := "supernodeSingles", unfollowed := true, recurses := true, apart := false, narrowed := true }
def SupernodeSinglesUptoSaid : Prop := supernodeSinglesUptoRow.holds Try.pinned (OpenSpec.upto supernodeSinglesSpec)

end Rows
end Go.Proofs.Ytojgmlfnbchloaa
