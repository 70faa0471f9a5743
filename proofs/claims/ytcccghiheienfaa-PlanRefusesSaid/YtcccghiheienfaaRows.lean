/-
  No cell of these rows narrows 'for every input' (looked for: loops, veiled, ifaces, maps, wideKeys, modest, calm, conditions, laid).
  DERIVED. THE GIVEN ROWS OF THIS SEAT. 6 by the template 'for every input the law returns true; each argument reads behind the call as it read before'; 0 by the template 'total and deterministic' (their statements: YtcccghiheienfaaTotals.lean).
  GIVEN WITH THE SEED: the statements are not yours to turn. If you find one false, say at which input.
  Laid BY PROGRAM, IN A SANDBOX (cutbox-rows.mjs): the forced cells as the released guide's own fill.sh prints them over the translation 8e762f78743dc1eb… (all of the seat's roots in one cut). By AI agents, Wed Nov 11 2026. No macro, syntax, notation, axiom, sorry.
-/
import Derived.Test.YtcccghiheienfaaChecked
import GoSem.Claim
import GoSem.ClaimJoined
import GoSem.ClaimMapViews
import Derived.JoinedTies
import Derived.KernelRfl
namespace Go.Proofs.Ytcccghiheienfaa
/- THE CELL 'sum', in the pinned program and in every row, IS THE sha256 OF THE DUMP (.gsa) THAT YtcccghiheienfaaProg.lean LOADS. Nothing in Lean hashes anything: it is a label: what it is worth is what the hold of that sum in a sandbox is worth. -/
noncomputable def Try.pinned : Pinned := { name := "ytcccghiheienfaa", sum := "8e762f78743dc1eb5171ab86e47adf979d80dcde33681938e0cd3aa600b4655e", checked := Try.checked }
namespace Rows
def none {H : Type} : Left H := { results := [], args := [] }

/-- 'sparselaw32.PlanWork': WHATEVER THE INPUT: true; the input reads as it did. -/
def planWorkSpec : ChangeSpec := { name := "planWork", fn := fun _ => fun
  | [d1, d2] => { results := [.lit (.bool true)], args := [d1, d2] }
  | _ => none }
def planWorkRow : OpenClaim := { program := "ytcccghiheienfaa", sum := "8e762f78743dc1eb5171ab86e47adf979d80dcde33681938e0cd3aa600b4655e", func := "sparse/sparselaw32.PlanWork", spec := "planWork", unfollowed := true, recurses := true, apart := false }
def PlanWorkSaid : Prop := planWorkRow.holds Try.pinned (OpenSpec.ofChange planWorkSpec)

/-- ITS FALSE NEIGHBOUR: 'it returns false'. Refute it at one input. -/
def planWorkWrong : ChangeSpec := { name := "planWork", fn := fun _ => fun
  | [d1, d2] => { results := [.lit (.bool false)], args := [d1, d2] }
  | _ => none }
def PlanWorkWrongFalsely : Prop := planWorkRow.holds Try.pinned (OpenSpec.ofChange planWorkWrong)

/-- 'sparselaw32.PlanSplits': WHATEVER THE INPUT: true; the input reads as it did. -/
def planSplitsSpec : ChangeSpec := { name := "planSplits", fn := fun _ => fun
  | [d1, d2, d3] => { results := [.lit (.bool true)], args := [d1, d2, d3] }
  | _ => none }
def planSplitsRow : OpenClaim := { program := "ytcccghiheienfaa", sum := "8e762f78743dc1eb5171ab86e47adf979d80dcde33681938e0cd3aa600b4655e", func := "sparse/sparselaw32.PlanSplits", spec := "planSplits", unfollowed := true, recurses := true, apart := false }
def PlanSplitsSaid : Prop := planSplitsRow.holds Try.pinned (OpenSpec.ofChange planSplitsSpec)

/-- ITS FALSE NEIGHBOUR: 'it returns false'. Refute it at one input. -/
def planSplitsWrong : ChangeSpec := { name := "planSplits", fn := fun _ => fun
  | [d1, d2, d3] => { results := [.lit (.bool false)], args := [d1, d2, d3] }
  | _ => none }
def PlanSplitsWrongFalsely : Prop := planSplitsRow.holds Try.pinned (OpenSpec.ofChange planSplitsWrong)

/-- 'sparselaw32.PlanRefuses': WHATEVER THE INPUT: true; the input reads as it did. -/
def planRefusesSpec : ChangeSpec := { name := "planRefuses", fn := fun _ => fun
  | [d1, d2, d3, d4, d5, d6] => { results := [.lit (.bool true)], args := [d1, d2, d3, d4, d5, d6] }
  | _ => none }
def planRefusesRow : OpenClaim := { program := "ytcccghiheienfaa", sum := "8e762f78743dc1eb5171ab86e47adf979d80dcde33681938e0cd3aa600b4655e", func := "sparse/sparselaw32.PlanRefuses", spec := "planRefuses", unfollowed := true, recurses := true, apart := false }
def PlanRefusesSaid : Prop := planRefusesRow.holds Try.pinned (OpenSpec.ofChange planRefusesSpec)

/-- ITS FALSE NEIGHBOUR: 'it returns false'. Refute it at one input. -/
def planRefusesWrong : ChangeSpec := { name := "planRefuses", fn := fun _ => fun
  | [d1, d2, d3, d4, d5, d6] => { results := [.lit (.bool false)], args := [d1, d2, d3, d4, d5, d6] }
  | _ => none }
def PlanRefusesWrongFalsely : Prop := planRefusesRow.holds Try.pinned (OpenSpec.ofChange planRefusesWrong)

/-- 'sparselaw32.PlanLoads': WHATEVER THE INPUT: true; the input reads as it did. -/
def planLoadsSpec : ChangeSpec := { name := "planLoads", fn := fun _ => fun
  | [d1, d2, d3] => { results := [.lit (.bool true)], args := [d1, d2, d3] }
  | _ => none }
def planLoadsRow : OpenClaim := { program := "ytcccghiheienfaa", sum := "8e762f78743dc1eb5171ab86e47adf979d80dcde33681938e0cd3aa600b4655e", func := "sparse/sparselaw32.PlanLoads", spec := "planLoads", unfollowed := true, recurses := true, apart := false }
def PlanLoadsSaid : Prop := planLoadsRow.holds Try.pinned (OpenSpec.ofChange planLoadsSpec)

/-- ITS FALSE NEIGHBOUR: 'it returns false'. Refute it at one input. -/
def planLoadsWrong : ChangeSpec := { name := "planLoads", fn := fun _ => fun
  | [d1, d2, d3] => { results := [.lit (.bool false)], args := [d1, d2, d3] }
  | _ => none }
def PlanLoadsWrongFalsely : Prop := planLoadsRow.holds Try.pinned (OpenSpec.ofChange planLoadsWrong)

/-- 'sparselaw32.PlanBalance': WHATEVER THE INPUT: true; the input reads as it did. -/
def planBalanceSpec : ChangeSpec := { name := "planBalance", fn := fun _ => fun
  | [d1, d2, d3] => { results := [.lit (.bool true)], args := [d1, d2, d3] }
  | _ => none }
def planBalanceRow : OpenClaim := { program := "ytcccghiheienfaa", sum := "8e762f78743dc1eb5171ab86e47adf979d80dcde33681938e0cd3aa600b4655e", func := "sparse/sparselaw32.PlanBalance", spec := "planBalance", unfollowed := true, recurses := true, apart := false }
def PlanBalanceSaid : Prop := planBalanceRow.holds Try.pinned (OpenSpec.ofChange planBalanceSpec)

/-- ITS FALSE NEIGHBOUR: 'it returns false'. Refute it at one input. -/
def planBalanceWrong : ChangeSpec := { name := "planBalance", fn := fun _ => fun
  | [d1, d2, d3] => { results := [.lit (.bool false)], args := [d1, d2, d3] }
  | _ => none }
def PlanBalanceWrongFalsely : Prop := planBalanceRow.holds Try.pinned (OpenSpec.ofChange planBalanceWrong)

/-- 'sparselaw32.PlanWhole': WHATEVER THE INPUT: true; the input reads as it did. -/
def planWholeSpec : ChangeSpec := { name := "planWhole", fn := fun _ => fun
  | [d1, d2, d3] => { results := [.lit (.bool true)], args := [d1, d2, d3] }
  | _ => none }
def planWholeRow : OpenClaim := { program := "ytcccghiheienfaa", sum := "8e762f78743dc1eb5171ab86e47adf979d80dcde33681938e0cd3aa600b4655e", func := "sparse/sparselaw32.PlanWhole", spec := "planWhole", unfollowed := true, recurses := true, apart := false }
def PlanWholeSaid : Prop := planWholeRow.holds Try.pinned (OpenSpec.ofChange planWholeSpec)

/-- ITS FALSE NEIGHBOUR: 'it returns false'. Refute it at one input. -/
def planWholeWrong : ChangeSpec := { name := "planWhole", fn := fun _ => fun
  | [d1, d2, d3] => { results := [.lit (.bool false)], args := [d1, d2, d3] }
  | _ => none }
def PlanWholeWrongFalsely : Prop := planWholeRow.holds Try.pinned (OpenSpec.ofChange planWholeWrong)

/- THE SECOND FORM. 'bulk': how many values and letters a reading holds, each counted each time it is reached (what is shared counts as often as it is met; a slice's spare places count too). A statement '..UptoSaid' is the law's where the arguments, and the package variables that the reading takes, are together of bulk at most 1048576: NARROWER than '..Said'. Prove '..Said' where nothing that the law and all that it calls make is longer than what came in: it says more and counts as full. Else prove '..UptoSaid'. A law counts once. -/
mutual
def uptoBulk {H : Type} : DataW H → Nat
  | .lit (.string bytes) => bytes.length + 1
  | .lit _ => 1
  | .nil => 1
  | .ptr d => uptoBulk d + 1
  | .slice elems spare => uptoBulkAll elems + uptoBulkAll spare + 1
  | .agg parts => uptoBulkAll parts + 1
  | .iface _ d => uptoBulk d + 1
  | .map entries => uptoBulkEntries entries + 1
  | .held _ => 1
def uptoBulkAll {H : Type} : List (DataW H) → Nat
  | [] => 0
  | d :: r => uptoBulk d + uptoBulkAll r
def uptoBulkEntries {H : Type} : List (Lit × DataW H) → Nat
  | [] => 0
  | x :: r => uptoBulkEntry x + uptoBulkEntries r
def uptoBulkEntry {H : Type} : Lit × DataW H → Nat
  | (.string bytes, d) => bytes.length + uptoBulk d + 1
  | (_, d) => uptoBulk d + 1
 end
def uptoSmall : (H : Type) → List (DataW H) → Bool := fun _ ds => decide (uptoBulkAll ds ≤ 1048576)
def OpenSpec.upto (s : _root_.Go.ChangeSpec) : _root_.Go.OpenSpec := { _root_.Go.OpenSpec.ofChange s with cond := some uptoSmall }

/-- 'sparselaw32.PlanWork', WHERE WHAT IT READS IS OF BULK AT MOST 1048576: true; the input reads as it did. -/
def planWorkUptoRow : OpenClaim := { program := "ytcccghiheienfaa", sum := "8e762f78743dc1eb5171ab86e47adf979d80dcde33681938e0cd3aa600b4655e", func := "sparse/sparselaw32.PlanWork", spec := "planWork", unfollowed := true, recurses := true, apart := false, narrowed := true }
def PlanWorkUptoSaid : Prop := planWorkUptoRow.holds Try.pinned (OpenSpec.upto planWorkSpec)

/-- 'sparselaw32.PlanSplits', WHERE WHAT IT READS IS OF BULK AT MOST 1048576: true; the input reads as it did. -/
def planSplitsUptoRow : OpenClaim := { program := "ytcccghiheienfaa", sum := "8e762f78743dc1eb5171ab86e47adf979d80dcde33681938e0cd3aa600b4655e", func := "sparse/sparselaw32.PlanSplits", spec := "planSplits", unfollowed := true, recurses := true, apart := false, narrowed := true }
def PlanSplitsUptoSaid : Prop := planSplitsUptoRow.holds Try.pinned (OpenSpec.upto planSplitsSpec)

/-- 'sparselaw32.PlanRefuses', WHERE WHAT IT READS IS OF BULK AT MOST 1048576: true; the input reads as it did. -/
def planRefusesUptoRow : OpenClaim := { program := "ytcccghiheienfaa", sum := "8e762f78743dc1eb5171ab86e47adf979d80dcde33681938e0cd3aa600b4655e", func := "sparse/sparselaw32.PlanRefuses", spec := "planRefuses", unfollowed := true, recurses := true, apart := false, narrowed := true }
def PlanRefusesUptoSaid : Prop := planRefusesUptoRow.holds Try.pinned (OpenSpec.upto planRefusesSpec)

/-- 'sparselaw32.PlanLoads', WHERE WHAT IT READS IS OF BULK AT MOST 1048576: true; the input reads as it did. -/
def planLoadsUptoRow : OpenClaim := { program := "ytcccghiheienfaa", sum := "8e762f78743dc1eb5171ab86e47adf979d80dcde33681938e0cd3aa600b4655e", func := "sparse/sparselaw32.PlanLoads", spec := "planLoads", unfollowed := true, recurses := true, apart := false, narrowed := true }
def PlanLoadsUptoSaid : Prop := planLoadsUptoRow.holds Try.pinned (OpenSpec.upto planLoadsSpec)

/-- 'sparselaw32.PlanBalance', WHERE WHAT IT READS IS OF BULK AT MOST 1048576: true; the input reads as it did. -/
def planBalanceUptoRow : OpenClaim := { program := "ytcccghiheienfaa", sum := "8e762f78743dc1eb5171ab86e47adf979d80dcde33681938e0cd3aa600b4655e", func := "sparse/sparselaw32.PlanBalance", spec := "planBalance", unfollowed := true, recurses := true, apart := false, narrowed := true }
def PlanBalanceUptoSaid : Prop := planBalanceUptoRow.holds Try.pinned (OpenSpec.upto planBalanceSpec)

/-- 'sparselaw32.PlanWhole', WHERE WHAT IT READS IS OF BULK AT MOST 1048576: true; the input reads as it did. -/
def planWholeUptoRow : OpenClaim := { program := "ytcccghiheienfaa", sum := "8e762f78743dc1eb5171ab86e47adf979d80dcde33681938e0cd3aa600b4655e", func := "sparse/sparselaw32.PlanWhole", spec := "planWhole", unfollowed := true, recurses := true, apart := false, narrowed := true }
def PlanWholeUptoSaid : Prop := planWholeUptoRow.holds Try.pinned (OpenSpec.upto planWholeSpec)

end Rows
end Go.Proofs.Ytcccghiheienfaa
