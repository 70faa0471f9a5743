/-
  No cell of these rows narrows 'for every input' (looked for: loops, veiled, ifaces, maps, wideKeys, modest, calm, conditions, laid).
  DERIVED. THE GIVEN ROWS OF THIS SEAT. 7 by the template 'for every input the law returns true; each argument reads behind the call as it read before'; 0 by the template 'total and deterministic' (their statements: YtcjbeengjcmpaaaTotals.lean).
  GIVEN WITH THE SEED: the statements are not yours to turn. If you find one false, say at which input.
  Laid BY PROGRAM, IN A SANDBOX (cutbox-rows.mjs): the forced cells as the released guide's own fill.sh prints them over the translation 07bc79b49eb1bd7d… (all of the seat's roots in one cut). By AI agents, Wed Nov 11 2026. No macro, syntax, notation, axiom, sorry.
-/
import Derived.Test.YtcjbeengjcmpaaaChecked
import GoSem.Claim
import GoSem.ClaimJoined
import GoSem.ClaimMapViews
import Derived.JoinedTies
import Derived.KernelRfl
namespace Go.Proofs.Ytcjbeengjcmpaaa
/- THE CELL 'sum', in the pinned program and in every row, IS THE sha256 OF THE DUMP (.gsa) THAT YtcjbeengjcmpaaaProg.lean LOADS. Nothing in Lean hashes anything: it is a label: what it is worth is what the hold of that sum in a sandbox is worth. -/
noncomputable def Try.pinned : Pinned := { name := "ytcjbeengjcmpaaa", sum := "07bc79b49eb1bd7d44a551aff501e2b417c8c68e7a9c260fa31e9bba5108d059", checked := Try.checked }
namespace Rows
def none {H : Type} : Left H := { results := [], args := [] }

/-- 'sparselaw16.MindegExact': WHATEVER THE INPUT: true; the input reads as it did. -/
def mindegExactSpec : ChangeSpec := { name := "mindegExact", fn := fun _ => fun
  | [d1, d2, d3] => { results := [.lit (.bool true)], args := [d1, d2, d3] }
  | _ => none }
def mindegExactRow : OpenClaim := { program := "ytcjbeengjcmpaaa", sum := "07bc79b49eb1bd7d44a551aff501e2b417c8c68e7a9c260fa31e9bba5108d059", func := "sparse/sparselaw16.MindegExact", spec := "mindegExact", unfollowed := true, recurses := true, apart := false }
def MindegExactSaid : Prop := mindegExactRow.holds Try.pinned (OpenSpec.ofChange mindegExactSpec)

/-- ITS FALSE NEIGHBOUR: 'it returns false'. Refute it at one input. -/
def mindegExactWrong : ChangeSpec := { name := "mindegExact", fn := fun _ => fun
  | [d1, d2, d3] => { results := [.lit (.bool false)], args := [d1, d2, d3] }
  | _ => none }
def MindegExactWrongFalsely : Prop := mindegExactRow.holds Try.pinned (OpenSpec.ofChange mindegExactWrong)

/-- 'sparselaw16.MindegLeast': WHATEVER THE INPUT: true; the input reads as it did. -/
def mindegLeastSpec : ChangeSpec := { name := "mindegLeast", fn := fun _ => fun
  | [d1, d2] => { results := [.lit (.bool true)], args := [d1, d2] }
  | _ => none }
def mindegLeastRow : OpenClaim := { program := "ytcjbeengjcmpaaa", sum := "07bc79b49eb1bd7d44a551aff501e2b417c8c68e7a9c260fa31e9bba5108d059", func := "sparse/sparselaw16.MindegLeast", spec := "mindegLeast", unfollowed := true, recurses := true, apart := false }
def MindegLeastSaid : Prop := mindegLeastRow.holds Try.pinned (OpenSpec.ofChange mindegLeastSpec)

/-- ITS FALSE NEIGHBOUR: 'it returns false'. Refute it at one input. -/
def mindegLeastWrong : ChangeSpec := { name := "mindegLeast", fn := fun _ => fun
  | [d1, d2] => { results := [.lit (.bool false)], args := [d1, d2] }
  | _ => none }
def MindegLeastWrongFalsely : Prop := mindegLeastRow.holds Try.pinned (OpenSpec.ofChange mindegLeastWrong)

/-- 'sparselaw16.MindegComponents': WHATEVER THE INPUT: true; the input reads as it did. -/
def mindegComponentsSpec : ChangeSpec := { name := "mindegComponents", fn := fun _ => fun
  | [d1, d2, d3] => { results := [.lit (.bool true)], args := [d1, d2, d3] }
  | _ => none }
def mindegComponentsRow : OpenClaim := { program := "ytcjbeengjcmpaaa", sum := "07bc79b49eb1bd7d44a551aff501e2b417c8c68e7a9c260fa31e9bba5108d059", func := "sparse/sparselaw16.MindegComponents", spec := "mindegComponents", unfollowed := true, recurses := true, apart := false }
def MindegComponentsSaid : Prop := mindegComponentsRow.holds Try.pinned (OpenSpec.ofChange mindegComponentsSpec)

/-- ITS FALSE NEIGHBOUR: 'it returns false'. Refute it at one input. -/
def mindegComponentsWrong : ChangeSpec := { name := "mindegComponents", fn := fun _ => fun
  | [d1, d2, d3] => { results := [.lit (.bool false)], args := [d1, d2, d3] }
  | _ => none }
def MindegComponentsWrongFalsely : Prop := mindegComponentsRow.holds Try.pinned (OpenSpec.ofChange mindegComponentsWrong)

/-- 'sparselaw16.MindegForest': WHATEVER THE INPUT: true; the input reads as it did. -/
def mindegForestSpec : ChangeSpec := { name := "mindegForest", fn := fun _ => fun
  | [d1, d2] => { results := [.lit (.bool true)], args := [d1, d2] }
  | _ => none }
def mindegForestRow : OpenClaim := { program := "ytcjbeengjcmpaaa", sum := "07bc79b49eb1bd7d44a551aff501e2b417c8c68e7a9c260fa31e9bba5108d059", func := "sparse/sparselaw16.MindegForest", spec := "mindegForest", unfollowed := true, recurses := true, apart := false }
def MindegForestSaid : Prop := mindegForestRow.holds Try.pinned (OpenSpec.ofChange mindegForestSpec)

/-- ITS FALSE NEIGHBOUR: 'it returns false'. Refute it at one input. -/
def mindegForestWrong : ChangeSpec := { name := "mindegForest", fn := fun _ => fun
  | [d1, d2] => { results := [.lit (.bool false)], args := [d1, d2] }
  | _ => none }
def MindegForestWrongFalsely : Prop := mindegForestRow.holds Try.pinned (OpenSpec.ofChange mindegForestWrong)

/-- 'sparselaw16.MindegAny': WHATEVER THE INPUT: true; the input reads as it did. -/
def mindegAnySpec : ChangeSpec := { name := "mindegAny", fn := fun _ => fun
  | [d1, d2] => { results := [.lit (.bool true)], args := [d1, d2] }
  | _ => none }
def mindegAnyRow : OpenClaim := { program := "ytcjbeengjcmpaaa", sum := "07bc79b49eb1bd7d44a551aff501e2b417c8c68e7a9c260fa31e9bba5108d059", func := "sparse/sparselaw16.MindegAny", spec := "mindegAny", unfollowed := true, recurses := true, apart := false }
def MindegAnySaid : Prop := mindegAnyRow.holds Try.pinned (OpenSpec.ofChange mindegAnySpec)

/-- ITS FALSE NEIGHBOUR: 'it returns false'. Refute it at one input. -/
def mindegAnyWrong : ChangeSpec := { name := "mindegAny", fn := fun _ => fun
  | [d1, d2] => { results := [.lit (.bool false)], args := [d1, d2] }
  | _ => none }
def MindegAnyWrongFalsely : Prop := mindegAnyRow.holds Try.pinned (OpenSpec.ofChange mindegAnyWrong)

/-- 'sparselaw16.MindegApprox': WHATEVER THE INPUT: true; the input reads as it did. -/
def mindegApproxSpec : ChangeSpec := { name := "mindegApprox", fn := fun _ => fun
  | [d1, d2] => { results := [.lit (.bool true)], args := [d1, d2] }
  | _ => none }
def mindegApproxRow : OpenClaim := { program := "ytcjbeengjcmpaaa", sum := "07bc79b49eb1bd7d44a551aff501e2b417c8c68e7a9c260fa31e9bba5108d059", func := "sparse/sparselaw16.MindegApprox", spec := "mindegApprox", unfollowed := true, recurses := true, apart := false }
def MindegApproxSaid : Prop := mindegApproxRow.holds Try.pinned (OpenSpec.ofChange mindegApproxSpec)

/-- ITS FALSE NEIGHBOUR: 'it returns false'. Refute it at one input. -/
def mindegApproxWrong : ChangeSpec := { name := "mindegApprox", fn := fun _ => fun
  | [d1, d2] => { results := [.lit (.bool false)], args := [d1, d2] }
  | _ => none }
def MindegApproxWrongFalsely : Prop := mindegApproxRow.holds Try.pinned (OpenSpec.ofChange mindegApproxWrong)

/-- 'sparselaw16.MindegBounds': WHATEVER THE INPUT: true; the input reads as it did. -/
def mindegBoundsSpec : ChangeSpec := { name := "mindegBounds", fn := fun _ => fun
  | [d1, d2] => { results := [.lit (.bool true)], args := [d1, d2] }
  | _ => none }
def mindegBoundsRow : OpenClaim := { program := "ytcjbeengjcmpaaa", sum := "07bc79b49eb1bd7d44a551aff501e2b417c8c68e7a9c260fa31e9bba5108d059", func := "sparse/sparselaw16.MindegBounds", spec := "mindegBounds", unfollowed := true, recurses := true, apart := false }
def MindegBoundsSaid : Prop := mindegBoundsRow.holds Try.pinned (OpenSpec.ofChange mindegBoundsSpec)

/-- ITS FALSE NEIGHBOUR: 'it returns false'. Refute it at one input. -/
def mindegBoundsWrong : ChangeSpec := { name := "mindegBounds", fn := fun _ => fun
  | [d1, d2] => { results := [.lit (.bool false)], args := [d1, d2] }
  | _ => none }
def MindegBoundsWrongFalsely : Prop := mindegBoundsRow.holds Try.pinned (OpenSpec.ofChange mindegBoundsWrong)

/- THE SECOND FORM. 'bulk': how many values and letters a reading holds, each counted each time it is reached (what is shared counts as often as it is met; a slice's spare places count too). A statement '..UptoSaid' is the law's where the arguments, and the package variables that the reading takes, are together of bulk at most 1048576: NARROWER than '..Said'. Prove '..Said' where nothing that the law and all that it calls make is longer than what came in: it says more and counts as full. Else prove '..UptoSaid'. A law counts once. -/
mutual
def uptoBulk {H : Type} : DataW H → Nat
  | .lit (.string bytes) => bytes.length + 1
  | .lit _ => 1
  | .nil => 1
  | .ptr d => uptoBulk d + 1
  | .slice elems spare => uptoBulkAll elems + uptoBulkAll spare + 1
  | .agg parts => uptoBulkAll parts + 1
  | .iface _ d => uptoBulk d + 1
  | .map entries => uptoBulkEntries entries + 1
  | .held _ => 1
def uptoBulkAll {H : Type} : List (DataW H) → Nat
  | [] => 0
  | d :: r => uptoBulk d + uptoBulkAll r
def uptoBulkEntries {H : Type} : List (Lit × DataW H) → Nat
  | [] => 0
  | x :: r => uptoBulkEntry x + uptoBulkEntries r
def uptoBulkEntry {H : Type} : Lit × DataW H → Nat
  | (.string bytes, d) => bytes.length + uptoBulk d + 1
  | (_, d) => uptoBulk d + 1
 end
def uptoSmall : (H : Type) → List (DataW H) → Bool := fun _ ds => decide (uptoBulkAll ds ≤ 1048576)
def OpenSpec.upto (s : _root_.Go.ChangeSpec) : _root_.Go.OpenSpec := { _root_.Go.OpenSpec.ofChange s with cond := some uptoSmall }

/-- 'sparselaw16.MindegExact', WHERE WHAT IT READS IS OF BULK AT MOST 1048576: true; the input reads as it did. -/
def mindegExactUptoRow : OpenClaim := { program := "ytcjbeengjcmpaaa", sum := "07bc79b49eb1bd7d44a551aff501e2b417c8c68e7a9c260fa31e9bba5108d059", func := "sparse/sparselaw16.MindegExact", spec := "mindegExact", unfollowed := true, recurses := true, apart := false, narrowed := true }
def MindegExactUptoSaid : Prop := mindegExactUptoRow.holds Try.pinned (OpenSpec.upto mindegExactSpec)

/-- 'sparselaw16.MindegLeast', WHERE WHAT IT READS IS OF BULK AT MOST 1048576: true; the input reads as it did. -/
def mindegLeastUptoRow : OpenClaim := { program := "ytcjbeengjcmpaaa", sum := "07bc79b49eb1bd7d44a551aff501e2b417c8c68e7a9c260fa31e9bba5108d059", func := "sparse/sparselaw16.MindegLeast", spec := "mindegLeast", unfollowed := true, recurses := true, apart := false, narrowed := true }
def MindegLeastUptoSaid : Prop := mindegLeastUptoRow.holds Try.pinned (OpenSpec.upto mindegLeastSpec)

/-- 'sparselaw16.MindegComponents', WHERE WHAT IT READS IS OF BULK AT MOST 1048576: true; the input reads as it did. -/
def mindegComponentsUptoRow : OpenClaim := { program := "ytcjbeengjcmpaaa", sum := "07bc79b49eb1bd7d44a551aff501e2b417c8c68e7a9c260fa31e9bba5108d059", func := "sparse/sparselaw16.MindegComponents", spec := "mindegComponents", unfollowed := true, recurses := true, apart := false, narrowed := true }
def MindegComponentsUptoSaid : Prop := mindegComponentsUptoRow.holds Try.pinned (OpenSpec.upto mindegComponentsSpec)

/-- 'sparselaw16.MindegForest', WHERE WHAT IT READS IS OF BULK AT MOST 1048576: true; the input reads as it did. -/
def mindegForestUptoRow : OpenClaim := { program := "ytcjbeengjcmpaaa", sum := "07bc79b49eb1bd7d44a551aff501e2b417c8c68e7a9c260fa31e9bba5108d059", func := "sparse/sparselaw16.MindegForest", spec := "mindegForest", unfollowed := true, recurses := true, apart := false, narrowed := true }
def MindegForestUptoSaid : Prop := mindegForestUptoRow.holds Try.pinned (OpenSpec.upto mindegForestSpec)

/-- 'sparselaw16.MindegAny', WHERE WHAT IT READS IS OF BULK AT MOST 1048576: true; the input reads as it did. -/
def mindegAnyUptoRow : OpenClaim := { program := "ytcjbeengjcmpaaa", sum := "07bc79b49eb1bd7d44a551aff501e2b417c8c68e7a9c260fa31e9bba5108d059", func := "sparse/sparselaw16.MindegAny", spec := "mindegAny", unfollowed := true, recurses := true, apart := false, narrowed := true }
def MindegAnyUptoSaid : Prop := mindegAnyUptoRow.holds Try.pinned (OpenSpec.upto mindegAnySpec)

/-- 'sparselaw16.MindegApprox', WHERE WHAT IT READS IS OF BULK AT MOST 1048576: true; the input reads as it did. -/
def mindegApproxUptoRow : OpenClaim := { program := "ytcjbeengjcmpaaa", sum := "07bc79b49eb1bd7d44a551aff501e2b417c8c68e7a9c260fa31e9bba5108d059", func := "sparse/sparselaw16.MindegApprox", spec := "mindegApprox", unfollowed := true, recurses := true, apart := false, narrowed := true }
def MindegApproxUptoSaid : Prop := mindegApproxUptoRow.holds Try.pinned (OpenSpec.upto mindegApproxSpec)

/-- 'sparselaw16.MindegBounds', WHERE WHAT IT READS IS OF BULK AT MOST 1048576: true; the input reads as it did. -/
def mindegBoundsUptoRow : OpenClaim := { program := "ytcjbeengjcmpaaa", sum := "07bc79b49eb1bd7d44a551aff501e2b417c8c68e7a9c260fa31e9bba5108d059", func := "sparse/sparselaw16.MindegBounds", spec := "mindegBounds", unfollowed := true, recurses := true, apart := false, narrowed := true }
def MindegBoundsUptoSaid : Prop := mindegBoundsUptoRow.holds Try.pinned (OpenSpec.upto mindegBoundsSpec)

end Rows
end Go.Proofs.Ytcjbeengjcmpaaa
