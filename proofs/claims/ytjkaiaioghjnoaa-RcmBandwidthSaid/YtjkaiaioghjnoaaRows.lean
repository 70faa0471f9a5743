/-
  No cell of these rows narrows 'for every input' (looked for: loops, veiled, ifaces, maps, wideKeys, modest, calm, conditions, laid).
  DERIVED. THE GIVEN ROWS OF THIS SEAT. 6 by the template 'for every input the law returns true; each argument reads behind the call as it read before'; 0 by the template 'total and deterministic' (their statements: YtjkaiaioghjnoaaTotals.lean).
  GIVEN WITH THE SEED: the statements are not yours to turn. If you find one false, say at which input.
  Laid BY PROGRAM, IN A SANDBOX (cutbox-rows.mjs): the forced cells as the released guide's own fill.sh prints them over the translation b1e3d404941eb06b… (all of the seat's roots in one cut). By AI agents, Wed Nov 11 2026. No macro, syntax, notation, axiom, sorry.
-/
import Derived.Test.YtjkaiaioghjnoaaChecked
import GoSem.Claim
import GoSem.ClaimJoined
import GoSem.ClaimMapViews
import Derived.JoinedTies
import Derived.KernelRfl
namespace Go.Proofs.Ytjkaiaioghjnoaa
/- THE CELL 'sum', in the pinned program and in every row, IS THE sha256 OF THE DUMP (.gsa) THAT YtjkaiaioghjnoaaProg.lean LOADS. Nothing in Lean hashes anything: it is a label: what it is worth is what the hold of that sum in a sandbox is worth. -/
noncomputable def Try.pinned : Pinned := { name := "ytjkaiaioghjnoaa", sum := "b1e3d404941eb06b4112bc6c557b5eb7feeb1ffae95e42af13bfe334d863d3be", checked := Try.checked }
namespace Rows
def none {H : Type} : Left H := { results := [], args := [] }

/-- 'sparselaw17.RcmPermutes': WHATEVER THE INPUT: true; the input reads as it did. -/
def rcmPermutesSpec : ChangeSpec := { name := "rcmPermutes", fn := fun _ => fun
  | [d1, d2] => { results := [.lit (.bool true)], args := [d1, d2] }
  | _ => none }
def rcmPermutesRow : OpenClaim := { program := "ytjkaiaioghjnoaa", sum := "b1e3d404941eb06b4112bc6c557b5eb7feeb1ffae95e42af13bfe334d863d3be", func := "sparse/sparselaw17.RcmPermutes", spec := "rcmPermutes", unfollowed := true, recurses := true, apart := false }
def RcmPermutesSaid : Prop := rcmPermutesRow.holds Try.pinned (OpenSpec.ofChange rcmPermutesSpec)

/-- ITS FALSE NEIGHBOUR: 'it returns false'. Refute it at one input. -/
def rcmPermutesWrong : ChangeSpec := { name := "rcmPermutes", fn := fun _ => fun
  | [d1, d2] => { results := [.lit (.bool false)], args := [d1, d2] }
  | _ => none }
def RcmPermutesWrongFalsely : Prop := rcmPermutesRow.holds Try.pinned (OpenSpec.ofChange rcmPermutesWrong)

/-- 'sparselaw17.RcmBandwidth': WHATEVER THE INPUT: true; the input reads as it did. -/
def rcmBandwidthSpec : ChangeSpec := { name := "rcmBandwidth", fn := fun _ => fun
  | [d1, d2] => { results := [.lit (.bool true)], args := [d1, d2] }
  | _ => none }
def rcmBandwidthRow : OpenClaim := { program := "ytjkaiaioghjnoaa", sum := "b1e3d404941eb06b4112bc6c557b5eb7feeb1ffae95e42af13bfe334d863d3be", func := "sparse/sparselaw17.RcmBandwidth", spec := "rcmBandwidth", unfollowed := true, recurses := true, apart := false }
def RcmBandwidthSaid : Prop := rcmBandwidthRow.holds Try.pinned (OpenSpec.ofChange rcmBandwidthSpec)

/-- ITS FALSE NEIGHBOUR: 'it returns false'. Refute it at one input. -/
def rcmBandwidthWrong : ChangeSpec := { name := "rcmBandwidth", fn := fun _ => fun
  | [d1, d2] => { results := [.lit (.bool false)], args := [d1, d2] }
  | _ => none }
def RcmBandwidthWrongFalsely : Prop := rcmBandwidthRow.holds Try.pinned (OpenSpec.ofChange rcmBandwidthWrong)

/-- 'sparselaw17.RcmAny': WHATEVER THE INPUT: true; the input reads as it did. -/
def rcmAnySpec : ChangeSpec := { name := "rcmAny", fn := fun _ => fun
  | [d1, d2] => { results := [.lit (.bool true)], args := [d1, d2] }
  | _ => none }
def rcmAnyRow : OpenClaim := { program := "ytjkaiaioghjnoaa", sum := "b1e3d404941eb06b4112bc6c557b5eb7feeb1ffae95e42af13bfe334d863d3be", func := "sparse/sparselaw17.RcmAny", spec := "rcmAny", unfollowed := true, recurses := true, apart := false }
def RcmAnySaid : Prop := rcmAnyRow.holds Try.pinned (OpenSpec.ofChange rcmAnySpec)

/-- ITS FALSE NEIGHBOUR: 'it returns false'. Refute it at one input. -/
def rcmAnyWrong : ChangeSpec := { name := "rcmAny", fn := fun _ => fun
  | [d1, d2] => { results := [.lit (.bool false)], args := [d1, d2] }
  | _ => none }
def RcmAnyWrongFalsely : Prop := rcmAnyRow.holds Try.pinned (OpenSpec.ofChange rcmAnyWrong)

/-- 'sparselaw17.RcmMade': WHATEVER THE INPUT: true; the input reads as it did. -/
def rcmMadeSpec : ChangeSpec := { name := "rcmMade", fn := fun _ => fun
  | [d1, d2, d3] => { results := [.lit (.bool true)], args := [d1, d2, d3] }
  | _ => none }
def rcmMadeRow : OpenClaim := { program := "ytjkaiaioghjnoaa", sum := "b1e3d404941eb06b4112bc6c557b5eb7feeb1ffae95e42af13bfe334d863d3be", func := "sparse/sparselaw17.RcmMade", spec := "rcmMade", unfollowed := true, recurses := true, apart := false }
def RcmMadeSaid : Prop := rcmMadeRow.holds Try.pinned (OpenSpec.ofChange rcmMadeSpec)

/-- ITS FALSE NEIGHBOUR: 'it returns false'. Refute it at one input. -/
def rcmMadeWrong : ChangeSpec := { name := "rcmMade", fn := fun _ => fun
  | [d1, d2, d3] => { results := [.lit (.bool false)], args := [d1, d2, d3] }
  | _ => none }
def RcmMadeWrongFalsely : Prop := rcmMadeRow.holds Try.pinned (OpenSpec.ofChange rcmMadeWrong)

/-- 'sparselaw17.RcmEnvelope': WHATEVER THE INPUT: true; the input reads as it did. -/
def rcmEnvelopeSpec : ChangeSpec := { name := "rcmEnvelope", fn := fun _ => fun
  | [d1, d2, d3] => { results := [.lit (.bool true)], args := [d1, d2, d3] }
  | _ => none }
def rcmEnvelopeRow : OpenClaim := { program := "ytjkaiaioghjnoaa", sum := "b1e3d404941eb06b4112bc6c557b5eb7feeb1ffae95e42af13bfe334d863d3be", func := "sparse/sparselaw17.RcmEnvelope", spec := "rcmEnvelope", unfollowed := true, recurses := true, apart := false }
def RcmEnvelopeSaid : Prop := rcmEnvelopeRow.holds Try.pinned (OpenSpec.ofChange rcmEnvelopeSpec)

/-- ITS FALSE NEIGHBOUR: 'it returns false'. Refute it at one input. -/
def rcmEnvelopeWrong : ChangeSpec := { name := "rcmEnvelope", fn := fun _ => fun
  | [d1, d2, d3] => { results := [.lit (.bool false)], args := [d1, d2, d3] }
  | _ => none }
def RcmEnvelopeWrongFalsely : Prop := rcmEnvelopeRow.holds Try.pinned (OpenSpec.ofChange rcmEnvelopeWrong)

/-- 'sparselaw17.RcmReversed': WHATEVER THE INPUT: true; the input reads as it did. -/
def rcmReversedSpec : ChangeSpec := { name := "rcmReversed", fn := fun _ => fun
  | [d1, d2, d3] => { results := [.lit (.bool true)], args := [d1, d2, d3] }
  | _ => none }
def rcmReversedRow : OpenClaim := { program := "ytjkaiaioghjnoaa", sum := "b1e3d404941eb06b4112bc6c557b5eb7feeb1ffae95e42af13bfe334d863d3be", func := "sparse/sparselaw17.RcmReversed", spec := "rcmReversed", unfollowed := true, recurses := true, apart := false }
def RcmReversedSaid : Prop := rcmReversedRow.holds Try.pinned (OpenSpec.ofChange rcmReversedSpec)

/-- ITS FALSE NEIGHBOUR: 'it returns false'. Refute it at one input. -/
def rcmReversedWrong : ChangeSpec := { name := "rcmReversed", fn := fun _ => fun
  | [d1, d2, d3] => { results := [.lit (.bool false)], args := [d1, d2, d3] }
  | _ => none }
def RcmReversedWrongFalsely : Prop := rcmReversedRow.holds Try.pinned (OpenSpec.ofChange rcmReversedWrong)

/- THE SECOND FORM. 'bulk': how many values and letters a reading holds, each counted each time it is reached (what is shared counts as often as it is met; a slice's spare places count too). A statement '..UptoSaid' is the law's where the arguments, and the package variables that the reading takes, are together of bulk at most 1048576: NARROWER than '..Said'. Prove '..Said' where nothing that the law and all that it calls make is longer than what came in: it says more and counts as full. Else prove '..UptoSaid'. A law counts once. -/
mutual
def uptoBulk {H : Type} : DataW H → Nat
  | .lit (.string bytes) => bytes.length + 1
  | .lit _ => 1
  | .nil => 1
  | .ptr d => uptoBulk d + 1
  | .slice elems spare => uptoBulkAll elems + uptoBulkAll spare + 1
  | .agg parts => uptoBulkAll parts + 1
  | .iface _ d => uptoBulk d + 1
  | .map entries => uptoBulkEntries entries + 1
  | .held _ => 1
def uptoBulkAll {H : Type} : List (DataW H) → Nat
  | [] => 0
  | d :: r => uptoBulk d + uptoBulkAll r
def uptoBulkEntries {H : Type} : List (Lit × DataW H) → Nat
  | [] => 0
  | x :: r => uptoBulkEntry x + uptoBulkEntries r
def uptoBulkEntry {H : Type} : Lit × DataW H → Nat
  | (.string bytes, d) => bytes.length + uptoBulk d + 1
  | (_, d) => uptoBulk d + 1
 end
def uptoSmall : (H : Type) → List (DataW H) → Bool := fun _ ds => decide (uptoBulkAll ds ≤ 1048576)
def OpenSpec.upto (s : _root_.Go.ChangeSpec) : _root_.Go.OpenSpec := { _root_.Go.OpenSpec.ofChange s with cond := some uptoSmall }

/-- 'sparselaw17.RcmPermutes', WHERE WHAT IT READS IS OF BULK AT MOST 1048576: true; the input reads as it did. -/
def rcmPermutesUptoRow : OpenClaim := { program := "ytjkaiaioghjnoaa", sum := "b1e3d404941eb06b4112bc6c557b5eb7feeb1ffae95e42af13bfe334d863d3be", func := "sparse/sparselaw17.RcmPermutes", spec := "rcmPermutes", unfollowed := true, recurses := true, apart := false, narrowed := true }
def RcmPermutesUptoSaid : Prop := rcmPermutesUptoRow.holds Try.pinned (OpenSpec.upto rcmPermutesSpec)

/-- 'sparselaw17.RcmBandwidth', WHERE WHAT IT READS IS OF BULK AT MOST 1048576: true; the input reads as it did. -/
def rcmBandwidthUptoRow : OpenClaim := { program := "ytjkaiaioghjnoaa", sum := "b1e3d404941eb06b4112bc6c557b5eb7feeb1ffae95e42af13bfe334d863d3be", func := "sparse/sparselaw17.RcmBandwidth", spec := "rcmBandwidth", unfollowed := true, recurses := true, apart := false, narrowed := true }
def RcmBandwidthUptoSaid : Prop := rcmBandwidthUptoRow.holds Try.pinned (OpenSpec.upto rcmBandwidthSpec)

/-- 'sparselaw17.RcmAny', WHERE WHAT IT READS IS OF BULK AT MOST 1048576: true; the input reads as it did. -/
def rcmAnyUptoRow : OpenClaim := { program := "ytjkaiaioghjnoaa", sum := "b1e3d404941eb06b4112bc6c557b5eb7feeb1ffae95e42af13bfe334d863d3be", func := "sparse/sparselaw17.RcmAny", spec := "rcmAny", unfollowed := true, recurses := true, apart := false, narrowed := true }
def RcmAnyUptoSaid : Prop := rcmAnyUptoRow.holds Try.pinned (OpenSpec.upto rcmAnySpec)

/-- 'sparselaw17.RcmMade', WHERE WHAT IT READS IS OF BULK AT MOST 1048576: true; the input reads as it did. -/
def rcmMadeUptoRow : OpenClaim := { program := "ytjkaiaioghjnoaa", sum := "b1e3d404941eb06b4112bc6c557b5eb7feeb1ffae95e42af13bfe334d863d3be", func := "sparse/sparselaw17.RcmMade", spec := "rcmMade", unfollowed := true, recurses := true, apart := false, narrowed := true }
def RcmMadeUptoSaid : Prop := rcmMadeUptoRow.holds Try.pinned (OpenSpec.upto rcmMadeSpec)

/-- 'sparselaw17.RcmEnvelope', WHERE WHAT IT READS IS OF BULK AT MOST 1048576: true; the input reads as it did. -/
def rcmEnvelopeUptoRow : OpenClaim := { program := "ytjkaiaioghjnoaa", sum := "b1e3d404941eb06b4112bc6c557b5eb7feeb1ffae95e42af13bfe334d863d3be", func := "sparse/sparselaw17.RcmEnvelope", spec := "rcmEnvelope", unfollowed := true, recurses := true, apart := false, narrowed := true }
def RcmEnvelopeUptoSaid : Prop := rcmEnvelopeUptoRow.holds Try.pinned (OpenSpec.upto rcmEnvelopeSpec)

/-- 'sparselaw17.RcmReversed', WHERE WHAT IT READS IS OF BULK AT MOST 1048576: true; the input reads as it did. -/
def rcmReversedUptoRow : OpenClaim := { program := "ytjkaiaioghjnoaa", sum := "b1e3d404941eb06b4112bc6c557b5eb7feeb1ffae95e42af13bfe334d863d3be", func := "sparse/sparselaw17.RcmReversed", spec := "rcmReversed", unfollowed := true, recurses := true, apart := false, narrowed := true }
def RcmReversedUptoSaid : Prop := rcmReversedUptoRow.holds Try.pinned (OpenSpec.upto rcmReversedSpec)

end Rows
end Go.Proofs.Ytjkaiaioghjnoaa
