/-
  No cell of these rows narrows 'for every input' (looked for: loops, veiled, ifaces, maps, wideKeys, modest, calm, conditions, laid).
  DERIVED. THE GIVEN ROWS OF THIS SEAT. 7 by the template 'for every input the law returns true; each argument reads behind the call as it read before'; 0 by the template 'total and deterministic' (their statements: YtemgndcedljdkaaTotals.lean).
  GIVEN WITH THE SEED: the statements are not yours to turn. If you find one false, say at which input.
  Laid BY PROGRAM, IN A SANDBOX (cutbox-rows.mjs): the forced cells as the released guide's own fill.sh prints them over the translation 000e5dc270b0991f… (all of the seat's roots in one cut). By AI agents, Wed Nov 11 2026. No macro, syntax, notation, axiom, sorry.
-/
import Derived.Test.YtemgndcedljdkaaChecked
import GoSem.Claim
import GoSem.ClaimJoined
import GoSem.ClaimMapViews
import Derived.JoinedTies
import Derived.KernelRfl
namespace Go.Proofs.Ytemgndcedljdkaa
/- THE CELL 'sum', in the pinned program and in every row, IS THE sha256 OF THE DUMP (.gsa) THAT YtemgndcedljdkaaProg.lean LOADS. Nothing in Lean hashes anything: it is a label: what it is worth is what the hold of that sum in a sandbox is worth. -/
noncomputable def Try.pinned : Pinned := { name := "ytemgndcedljdkaa", sum := "000e5dc270b0991f8f945b0c156ba93ba3e0a239058df151bbaca76585d12111", checked := Try.checked }
namespace Rows
def none {H : Type} : Left H := { results := [], args := [] }

/-- 'sparselaw22.MemoryMade': WHATEVER THE INPUT: true; the input reads as it did. -/
def memoryMadeSpec : ChangeSpec := { name := "memoryMade", fn := fun _ => fun
  | [d1, d2, d3, d4] => { results := [.lit (.bool true)], args := [d1, d2, d3, d4] }
  | _ => none }
def memoryMadeRow : OpenClaim := { program := "ytemgndcedljdkaa", sum := "000e5dc270b0991f8f945b0c156ba93ba3e0a239058df151bbaca76585d12111", func := "sparse/sparselaw22.MemoryMade", spec := "memoryMade", unfollowed := true, recurses := true, apart := false }
def MemoryMadeSaid : Prop := memoryMadeRow.holds Try.pinned (OpenSpec.ofChange memoryMadeSpec)

/-- ITS FALSE NEIGHBOUR: 'it returns false'. Refute it at one input. -/
def memoryMadeWrong : ChangeSpec := { name := "memoryMade", fn := fun _ => fun
  | [d1, d2, d3, d4] => { results := [.lit (.bool false)], args := [d1, d2, d3, d4] }
  | _ => none }
def MemoryMadeWrongFalsely : Prop := memoryMadeRow.holds Try.pinned (OpenSpec.ofChange memoryMadeWrong)

/-- 'sparselaw22.MemoryLiu': WHATEVER THE INPUT: true; the input reads as it did. -/
def memoryLiuSpec : ChangeSpec := { name := "memoryLiu", fn := fun _ => fun
  | [d1, d2, d3, d4] => { results := [.lit (.bool true)], args := [d1, d2, d3, d4] }
  | _ => none }
def memoryLiuRow : OpenClaim := { program := "ytemgndcedljdkaa", sum := "000e5dc270b0991f8f945b0c156ba93ba3e0a239058df151bbaca76585d12111", func := "sparse/sparselaw22.MemoryLiu", spec := "memoryLiu", unfollowed := true, recurses := true, apart := false }
def MemoryLiuSaid : Prop := memoryLiuRow.holds Try.pinned (OpenSpec.ofChange memoryLiuSpec)

/-- ITS FALSE NEIGHBOUR: 'it returns false'. Refute it at one input. -/
def memoryLiuWrong : ChangeSpec := { name := "memoryLiu", fn := fun _ => fun
  | [d1, d2, d3, d4] => { results := [.lit (.bool false)], args := [d1, d2, d3, d4] }
  | _ => none }
def MemoryLiuWrongFalsely : Prop := memoryLiuRow.holds Try.pinned (OpenSpec.ofChange memoryLiuWrong)

/-- 'sparselaw22.MemoryPeaks': WHATEVER THE INPUT: true; the input reads as it did. -/
def memoryPeaksSpec : ChangeSpec := { name := "memoryPeaks", fn := fun _ => fun
  | [d1, d2, d3] => { results := [.lit (.bool true)], args := [d1, d2, d3] }
  | _ => none }
def memoryPeaksRow : OpenClaim := { program := "ytemgndcedljdkaa", sum := "000e5dc270b0991f8f945b0c156ba93ba3e0a239058df151bbaca76585d12111", func := "sparse/sparselaw22.MemoryPeaks", spec := "memoryPeaks", unfollowed := true, recurses := true, apart := false }
def MemoryPeaksSaid : Prop := memoryPeaksRow.holds Try.pinned (OpenSpec.ofChange memoryPeaksSpec)

/-- ITS FALSE NEIGHBOUR: 'it returns false'. Refute it at one input. -/
def memoryPeaksWrong : ChangeSpec := { name := "memoryPeaks", fn := fun _ => fun
  | [d1, d2, d3] => { results := [.lit (.bool false)], args := [d1, d2, d3] }
  | _ => none }
def MemoryPeaksWrongFalsely : Prop := memoryPeaksRow.holds Try.pinned (OpenSpec.ofChange memoryPeaksWrong)

/-- 'sparselaw22.MemoryOrders': WHATEVER THE INPUT: true; the input reads as it did. -/
def memoryOrdersSpec : ChangeSpec := { name := "memoryOrders", fn := fun _ => fun
  | [d1, d2, d3, d4] => { results := [.lit (.bool true)], args := [d1, d2, d3, d4] }
  | _ => none }
def memoryOrdersRow : OpenClaim := { program := "ytemgndcedljdkaa", sum := "000e5dc270b0991f8f945b0c156ba93ba3e0a239058df151bbaca76585d12111", func := "sparse/sparselaw22.MemoryOrders", spec := "memoryOrders", unfollowed := true, recurses := true, apart := false }
def MemoryOrdersSaid : Prop := memoryOrdersRow.holds Try.pinned (OpenSpec.ofChange memoryOrdersSpec)

/-- ITS FALSE NEIGHBOUR: 'it returns false'. Refute it at one input. -/
def memoryOrdersWrong : ChangeSpec := { name := "memoryOrders", fn := fun _ => fun
  | [d1, d2, d3, d4] => { results := [.lit (.bool false)], args := [d1, d2, d3, d4] }
  | _ => none }
def MemoryOrdersWrongFalsely : Prop := memoryOrdersRow.holds Try.pinned (OpenSpec.ofChange memoryOrdersWrong)

/-- 'sparselaw22.MemoryAny': WHATEVER THE INPUT: true; the input reads as it did. -/
def memoryAnySpec : ChangeSpec := { name := "memoryAny", fn := fun _ => fun
  | [d1, d2] => { results := [.lit (.bool true)], args := [d1, d2] }
  | _ => none }
def memoryAnyRow : OpenClaim := { program := "ytemgndcedljdkaa", sum := "000e5dc270b0991f8f945b0c156ba93ba3e0a239058df151bbaca76585d12111", func := "sparse/sparselaw22.MemoryAny", spec := "memoryAny", unfollowed := true, recurses := true, apart := false }
def MemoryAnySaid : Prop := memoryAnyRow.holds Try.pinned (OpenSpec.ofChange memoryAnySpec)

/-- ITS FALSE NEIGHBOUR: 'it returns false'. Refute it at one input. -/
def memoryAnyWrong : ChangeSpec := { name := "memoryAny", fn := fun _ => fun
  | [d1, d2] => { results := [.lit (.bool false)], args := [d1, d2] }
  | _ => none }
def MemoryAnyWrongFalsely : Prop := memoryAnyRow.holds Try.pinned (OpenSpec.ofChange memoryAnyWrong)

/-- 'sparselaw22.MemoryBounds': WHATEVER THE INPUT: true; the input reads as it did. -/
def memoryBoundsSpec : ChangeSpec := { name := "memoryBounds", fn := fun _ => fun
  | [d1, d2, d3, d4] => { results := [.lit (.bool true)], args := [d1, d2, d3, d4] }
  | _ => none }
def memoryBoundsRow : OpenClaim := { program := "ytemgndcedljdkaa", sum := "000e5dc270b0991f8f945b0c156ba93ba3e0a239058df151bbaca76585d12111", func := "sparse/sparselaw22.MemoryBounds", spec := "memoryBounds", unfollowed := true, recurses := true, apart := false }
def MemoryBoundsSaid : Prop := memoryBoundsRow.holds Try.pinned (OpenSpec.ofChange memoryBoundsSpec)

/-- ITS FALSE NEIGHBOUR: 'it returns false'. Refute it at one input. -/
def memoryBoundsWrong : ChangeSpec := { name := "memoryBounds", fn := fun _ => fun
  | [d1, d2, d3, d4] => { results := [.lit (.bool false)], args := [d1, d2, d3, d4] }
  | _ => none }
def MemoryBoundsWrongFalsely : Prop := memoryBoundsRow.holds Try.pinned (OpenSpec.ofChange memoryBoundsWrong)

/-- 'sparselaw22.MemoryFactor': WHATEVER THE INPUT: true; the input reads as it did. -/
def memoryFactorSpec : ChangeSpec := { name := "memoryFactor", fn := fun _ => fun
  | [d1, d2, d3] => { results := [.lit (.bool true)], args := [d1, d2, d3] }
  | _ => none }
def memoryFactorRow : OpenClaim := { program := "ytemgndcedljdkaa", sum := "000e5dc270b0991f8f945b0c156ba93ba3e0a239058df151bbaca76585d12111", func := "sparse/sparselaw22.MemoryFactor", spec := "memoryFactor", unfollowed := true, recurses := true, apart := false }
def MemoryFactorSaid : Prop := memoryFactorRow.holds Try.pinned (OpenSpec.ofChange memoryFactorSpec)

/-- ITS FALSE NEIGHBOUR: 'it returns false'. Refute it at one input. -/
def memoryFactorWrong : ChangeSpec := { name := "memoryFactor", fn := fun _ => fun
  | [d1, d2, d3] => { results := [.lit (.bool false)], args := [d1, d2, d3] }
  | _ => none }
def MemoryFactorWrongFalsely : Prop := memoryFactorRow.holds Try.pinned (OpenSpec.ofChange memoryFactorWrong)

/- THE SECOND FORM. 'bulk': how many values and letters a reading holds, each counted each time it is reached (what is shared counts as often as it is met; a slice's spare places count too). A statement '..UptoSaid' is the law's where the arguments, and the package variables that the reading takes, are together of bulk at most 1048576: NARROWER than '..Said'. Prove '..Said' where nothing that the law and all that it calls make is longer than what came in: it says more and counts as full. Else prove '..UptoSaid'. A law counts once. -/
mutual
def uptoBulk {H : Type} : DataW H → Nat
  | .lit (.string bytes) => bytes.length + 1
  | .lit _ => 1
  | .nil => 1
  | .ptr d => uptoBulk d + 1
  | .slice elems spare => uptoBulkAll elems + uptoBulkAll spare + 1
  | .agg parts => uptoBulkAll parts + 1
  | .iface _ d => uptoBulk d + 1
  | .map entries => uptoBulkEntries entries + 1
  | .held _ => 1
def uptoBulkAll {H : Type} : List (DataW H) → Nat
  | [] => 0
  | d :: r => uptoBulk d + uptoBulkAll r
def uptoBulkEntries {H : Type} : List (Lit × DataW H) → Nat
  | [] => 0
  | x :: r => uptoBulkEntry x + uptoBulkEntries r
def uptoBulkEntry {H : Type} : Lit × DataW H → Nat
  | (.string bytes, d) => bytes.length + uptoBulk d + 1
  | (_, d) => uptoBulk d + 1
 end
def uptoSmall : (H : Type) → List (DataW H) → Bool := fun _ ds => decide (uptoBulkAll ds ≤ 1048576)
def OpenSpec.upto (s : _root_.Go.ChangeSpec) : _root_.Go.OpenSpec := { _root_.Go.OpenSpec.ofChange s with cond := some uptoSmall }

/-- 'sparselaw22.MemoryMade', WHERE WHAT IT READS IS OF BULK AT MOST 1048576: true; the input reads as it did. -/
def memoryMadeUptoRow : OpenClaim := { program := "ytemgndcedljdkaa", sum := "000e5dc270b0991f8f945b0c156ba93ba3e0a239058df151bbaca76585d12111", func := "sparse/sparselaw22.MemoryMade", spec := "memoryMade", unfollowed := true, recurses := true, apart := false, narrowed := true }
def MemoryMadeUptoSaid : Prop := memoryMadeUptoRow.holds Try.pinned (OpenSpec.upto memoryMadeSpec)

/-- 'sparselaw22.MemoryLiu', WHERE WHAT IT READS IS OF BULK AT MOST 1048576: true; the input reads as it did. -/
def memoryLiuUptoRow : OpenClaim := { program := "ytemgndcedljdkaa", sum := "000e5dc270b0991f8f945b0c156ba93ba3e0a239058df151bbaca76585d12111", func := "sparse/sparselaw22.MemoryLiu", spec := "memoryLiu", unfollowed := true, recurses := true, apart := false, narrowed := true }
def MemoryLiuUptoSaid : Prop := memoryLiuUptoRow.holds Try.pinned (OpenSpec.upto memoryLiuSpec)

/-- 'sparselaw22.MemoryPeaks', WHERE WHAT IT READS IS OF BULK AT MOST 1048576: true; the input reads as it did. -/
def memoryPeaksUptoRow : OpenClaim := { program := "ytemgndcedljdkaa", sum := "000e5dc270b0991f8f945b0c156ba93ba3e0a239058df151bbaca76585d12111", func := "sparse/sparselaw22.MemoryPeaks", spec := "memoryPeaks", unfollowed := true, recurses := true, apart := false, narrowed := true }
def MemoryPeaksUptoSaid : Prop := memoryPeaksUptoRow.holds Try.pinned (OpenSpec.upto memoryPeaksSpec)

/-- 'sparselaw22.MemoryOrders', WHERE WHAT IT READS IS OF BULK AT MOST 1048576: true; the input reads as it did. -/
def memoryOrdersUptoRow : OpenClaim := { program := "ytemgndcedljdkaa", sum := "000e5dc270b0991f8f945b0c156ba93ba3e0a239058df151bbaca76585d12111", func := "sparse/sparselaw22.MemoryOrders", spec := "memoryOrders", unfollowed := true, recurses := true, apart := false, narrowed := true }
def MemoryOrdersUptoSaid : Prop := memoryOrdersUptoRow.holds Try.pinned (OpenSpec.upto memoryOrdersSpec)

/-- 'sparselaw22.MemoryAny', WHERE WHAT IT READS IS OF BULK AT MOST 1048576: true; the input reads as it did. -/
def memoryAnyUptoRow : OpenClaim := { program := "ytemgndcedljdkaa", sum := "000e5dc270b0991f8f945b0c156ba93ba3e0a239058df151bbaca76585d12111", func := "sparse/sparselaw22.MemoryAny", spec := "memoryAny", unfollowed := true, recurses := true, apart := false, narrowed := true }
def MemoryAnyUptoSaid : Prop := memoryAnyUptoRow.holds Try.pinned (OpenSpec.upto memoryAnySpec)

/-- 'sparselaw22.MemoryBounds', WHERE WHAT IT READS IS OF BULK AT MOST 1048576: true; the input reads as it did. -/
def memoryBoundsUptoRow : OpenClaim := { program := "ytemgndcedljdkaa", sum := "000e5dc270b0991f8f945b0c156ba93ba3e0a239058df151bbaca76585d12111", func := "sparse/sparselaw22.MemoryBounds", spec := "memoryBounds", unfollowed := true, recurses := true, apart := false, narrowed := true }
def MemoryBoundsUptoSaid : Prop := memoryBoundsUptoRow.holds Try.pinned (OpenSpec.upto memoryBoundsSpec)

/-- 'sparselaw22.MemoryFactor', WHERE WHAT IT READS IS OF BULK AT MOST 1048576: true; the input reads as it did. -/
def memoryFactorUptoRow : OpenClaim := { program := "ytemgndcedljdkaa", sum := "000e5dc270b0991f8f945b0c156ba93ba3e0a239058df151bbaca76585d12111", func := "sparse/sparselaw22.MemoryFactor", spec := "memoryFactor", unfollowed := true, recurses := true, apart := false, narrowed := true }
def MemoryFactorUptoSaid : Prop := memoryFactorUptoRow.holds Try.pinned (OpenSpec.upto memoryFactorSpec)

end Rows
end Go.Proofs.Ytemgndcedljdkaa
