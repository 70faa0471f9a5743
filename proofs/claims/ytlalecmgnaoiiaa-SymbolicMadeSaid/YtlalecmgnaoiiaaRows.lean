/-
  No cell of these rows narrows 'for every input' (looked for: loops, veiled, ifaces, maps, wideKeys, modest, calm, conditions, laid).
  DERIVED. THE GIVEN ROWS OF THIS SEAT. 8 by the template 'for every input the law returns true; each argument reads behind the call as it read before'; 0 by the template 'total and deterministic' (their statements: YtlalecmgnaoiiaaTotals.lean).
  GIVEN WITH THE SEED: the statements are not yours to turn. If you find one false, say at which input.
  Laid BY PROGRAM, IN A SANDBOX (cutbox-rows.mjs): the forced cells as the released guide's own fill.sh prints them over the translation a76254b257c2b310… (all of the seat's roots in one cut). By AI agents, Wed Nov 11 2026. No macro, syntax, notation, axiom, sorry.
-/
import Derived.Test.YtlalecmgnaoiiaaChecked
import GoSem.Claim
import GoSem.ClaimJoined
import GoSem.ClaimMapViews
import Derived.JoinedTies
import Derived.KernelRfl
namespace Go.Proofs.Ytlalecmgnaoiiaa
/- THE CELL 'sum', in the pinned program and in every row, IS THE sha256 OF THE DUMP (.gsa) THAT YtlalecmgnaoiiaaProg.lean LOADS. Nothing in Lean hashes anything: it is a label: what it is worth is what the hold of that sum in a sandbox is worth. -/
noncomputable def Try.pinned : Pinned := { name := "ytlalecmgnaoiiaa", sum := "a76254b257c2b3100db327dff19c1443a517f7b75abed196260e03586c872b7a", checked := Try.checked }
namespace Rows
def none {H : Type} : Left H := { results := [], args := [] }

/-- 'sparselaw20.SymbolicReach': WHATEVER THE INPUT: true; the input reads as it did. -/
def symbolicReachSpec : ChangeSpec := { name := "symbolicReach", fn := fun _ => fun
  | [d1, d2] => { results := [.lit (.bool true)], args := [d1, d2] }
  | _ => none }
def symbolicReachRow : OpenClaim := { program := "ytlalecmgnaoiiaa", sum := "a76254b257c2b3100db327dff19c1443a517f7b75abed196260e03586c872b7a", func := "sparse/sparselaw20.SymbolicReach", spec := "symbolicReach", apart := false }
def SymbolicReachSaid : Prop := symbolicReachRow.holds Try.pinned (OpenSpec.ofChange symbolicReachSpec)

/-- ITS FALSE NEIGHBOUR: 'it returns false'. Refute it at one input. -/
def symbolicReachWrong : ChangeSpec := { name := "symbolicReach", fn := fun _ => fun
  | [d1, d2] => { results := [.lit (.bool false)], args := [d1, d2] }
  | _ => none }
def SymbolicReachWrongFalsely : Prop := symbolicReachRow.holds Try.pinned (OpenSpec.ofChange symbolicReachWrong)

/-- 'sparselaw20.SymbolicPaths': WHATEVER THE INPUT: true; the input reads as it did. -/
def symbolicPathsSpec : ChangeSpec := { name := "symbolicPaths", fn := fun _ => fun
  | [d1, d2] => { results := [.lit (.bool true)], args := [d1, d2] }
  | _ => none }
def symbolicPathsRow : OpenClaim := { program := "ytlalecmgnaoiiaa", sum := "a76254b257c2b3100db327dff19c1443a517f7b75abed196260e03586c872b7a", func := "sparse/sparselaw20.SymbolicPaths", spec := "symbolicPaths", apart := false }
def SymbolicPathsSaid : Prop := symbolicPathsRow.holds Try.pinned (OpenSpec.ofChange symbolicPathsSpec)

/-- ITS FALSE NEIGHBOUR: 'it returns false'. Refute it at one input. -/
def symbolicPathsWrong : ChangeSpec := { name := "symbolicPaths", fn := fun _ => fun
  | [d1, d2] => { results := [.lit (.bool false)], args := [d1, d2] }
  | _ => none }
def SymbolicPathsWrongFalsely : Prop := symbolicPathsRow.holds Try.pinned (OpenSpec.ofChange symbolicPathsWrong)

/-- 'sparselaw20.SymbolicTree': WHATEVER THE INPUT: true; the input reads as it did. -/
def symbolicTreeSpec : ChangeSpec := { name := "symbolicTree", fn := fun _ => fun
  | [d1, d2] => { results := [.lit (.bool true)], args := [d1, d2] }
  | _ => none }
def symbolicTreeRow : OpenClaim := { program := "ytlalecmgnaoiiaa", sum := "a76254b257c2b3100db327dff19c1443a517f7b75abed196260e03586c872b7a", func := "sparse/sparselaw20.SymbolicTree", spec := "symbolicTree", apart := false }
def SymbolicTreeSaid : Prop := symbolicTreeRow.holds Try.pinned (OpenSpec.ofChange symbolicTreeSpec)

/-- ITS FALSE NEIGHBOUR: 'it returns false'. Refute it at one input. -/
def symbolicTreeWrong : ChangeSpec := { name := "symbolicTree", fn := fun _ => fun
  | [d1, d2] => { results := [.lit (.bool false)], args := [d1, d2] }
  | _ => none }
def SymbolicTreeWrongFalsely : Prop := symbolicTreeRow.holds Try.pinned (OpenSpec.ofChange symbolicTreeWrong)

/-- 'sparselaw20.SymbolicSolve': WHATEVER THE INPUT: true; the input reads as it did. -/
def symbolicSolveSpec : ChangeSpec := { name := "symbolicSolve", fn := fun _ => fun
  | [d1, d2, d3] => { results := [.lit (.bool true)], args := [d1, d2, d3] }
  | _ => none }
def symbolicSolveRow : OpenClaim := { program := "ytlalecmgnaoiiaa", sum := "a76254b257c2b3100db327dff19c1443a517f7b75abed196260e03586c872b7a", func := "sparse/sparselaw20.SymbolicSolve", spec := "symbolicSolve", apart := false }
def SymbolicSolveSaid : Prop := symbolicSolveRow.holds Try.pinned (OpenSpec.ofChange symbolicSolveSpec)

/-- ITS FALSE NEIGHBOUR: 'it returns false'. Refute it at one input. -/
def symbolicSolveWrong : ChangeSpec := { name := "symbolicSolve", fn := fun _ => fun
  | [d1, d2, d3] => { results := [.lit (.bool false)], args := [d1, d2, d3] }
  | _ => none }
def SymbolicSolveWrongFalsely : Prop := symbolicSolveRow.holds Try.pinned (OpenSpec.ofChange symbolicSolveWrong)

/-- 'sparselaw20.SymbolicRows': WHATEVER THE INPUT: true; the input reads as it did. -/
def symbolicRowsSpec : ChangeSpec := { name := "symbolicRows", fn := fun _ => fun
  | [d1, d2] => { results := [.lit (.bool true)], args := [d1, d2] }
  | _ => none }
def symbolicRowsRow : OpenClaim := { program := "ytlalecmgnaoiiaa", sum := "a76254b257c2b3100db327dff19c1443a517f7b75abed196260e03586c872b7a", func := "sparse/sparselaw20.SymbolicRows", spec := "symbolicRows", apart := false }
def SymbolicRowsSaid : Prop := symbolicRowsRow.holds Try.pinned (OpenSpec.ofChange symbolicRowsSpec)

/-- ITS FALSE NEIGHBOUR: 'it returns false'. Refute it at one input. -/
def symbolicRowsWrong : ChangeSpec := { name := "symbolicRows", fn := fun _ => fun
  | [d1, d2] => { results := [.lit (.bool false)], args := [d1, d2] }
  | _ => none }
def SymbolicRowsWrongFalsely : Prop := symbolicRowsRow.holds Try.pinned (OpenSpec.ofChange symbolicRowsWrong)

/-- 'sparselaw20.SymbolicAny': WHATEVER THE INPUT: true; the input reads as it did. -/
def symbolicAnySpec : ChangeSpec := { name := "symbolicAny", fn := fun _ => fun
  | [d1, d2, d3] => { results := [.lit (.bool true)], args := [d1, d2, d3] }
  | _ => none }
def symbolicAnyRow : OpenClaim := { program := "ytlalecmgnaoiiaa", sum := "a76254b257c2b3100db327dff19c1443a517f7b75abed196260e03586c872b7a", func := "sparse/sparselaw20.SymbolicAny", spec := "symbolicAny", unfollowed := true, recurses := true, apart := false }
def SymbolicAnySaid : Prop := symbolicAnyRow.holds Try.pinned (OpenSpec.ofChange symbolicAnySpec)

/-- ITS FALSE NEIGHBOUR: 'it returns false'. Refute it at one input. -/
def symbolicAnyWrong : ChangeSpec := { name := "symbolicAny", fn := fun _ => fun
  | [d1, d2, d3] => { results := [.lit (.bool false)], args := [d1, d2, d3] }
  | _ => none }
def SymbolicAnyWrongFalsely : Prop := symbolicAnyRow.holds Try.pinned (OpenSpec.ofChange symbolicAnyWrong)

/-- 'sparselaw20.SymbolicMade': WHATEVER THE INPUT: true; the input reads as it did. -/
def symbolicMadeSpec : ChangeSpec := { name := "symbolicMade", fn := fun _ => fun
  | [d1, d2, d3, d4] => { results := [.lit (.bool true)], args := [d1, d2, d3, d4] }
  | _ => none }
def symbolicMadeRow : OpenClaim := { program := "ytlalecmgnaoiiaa", sum := "a76254b257c2b3100db327dff19c1443a517f7b75abed196260e03586c872b7a", func := "sparse/sparselaw20.SymbolicMade", spec := "symbolicMade", unfollowed := true, recurses := true, apart := false }
def SymbolicMadeSaid : Prop := symbolicMadeRow.holds Try.pinned (OpenSpec.ofChange symbolicMadeSpec)

/-- ITS FALSE NEIGHBOUR: 'it returns false'. Refute it at one input. -/
def symbolicMadeWrong : ChangeSpec := { name := "symbolicMade", fn := fun _ => fun
  | [d1, d2, d3, d4] => { results := [.lit (.bool false)], args := [d1, d2, d3, d4] }
  | _ => none }
def SymbolicMadeWrongFalsely : Prop := symbolicMadeRow.holds Try.pinned (OpenSpec.ofChange symbolicMadeWrong)

/-- 'sparselaw20.SymbolicFill': WHATEVER THE INPUT: true; the input reads as it did. -/
def symbolicFillSpec : ChangeSpec := { name := "symbolicFill", fn := fun _ => fun
  | [d1, d2, d3] => { results := [.lit (.bool true)], args := [d1, d2, d3] }
  | _ => none }
def symbolicFillRow : OpenClaim := { program := "ytlalecmgnaoiiaa", sum := "a76254b257c2b3100db327dff19c1443a517f7b75abed196260e03586c872b7a", func := "sparse/sparselaw20.SymbolicFill", spec := "symbolicFill", unfollowed := true, recurses := true, apart := false }
def SymbolicFillSaid : Prop := symbolicFillRow.holds Try.pinned (OpenSpec.ofChange symbolicFillSpec)

/-- ITS FALSE NEIGHBOUR: 'it returns false'. Refute it at one input. -/
def symbolicFillWrong : ChangeSpec := { name := "symbolicFill", fn := fun _ => fun
  | [d1, d2, d3] => { results := [.lit (.bool false)], args := [d1, d2, d3] }
  | _ => none }
def SymbolicFillWrongFalsely : Prop := symbolicFillRow.holds Try.pinned (OpenSpec.ofChange symbolicFillWrong)

/- THE SECOND FORM. 'bulk': how many values and letters a reading holds, each counted each time it is reached (what is shared counts as often as it is met; a slice's spare places count too). A statement '..UptoSaid' is the law's where the arguments, and the package variables that the reading takes, are together of bulk at most 1048576: NARROWER than '..Said'. Prove '..Said' where nothing that the law and all that it calls make is longer than what came in: it says more and counts as full. Else prove '..UptoSaid'. A law counts once. -/
mutual
def uptoBulk {H : Type} : DataW H → Nat
  | .lit (.string bytes) => bytes.length + 1
  | .lit _ => 1
  | .nil => 1
  | .ptr d => uptoBulk d + 1
  | .slice elems spare => uptoBulkAll elems + uptoBulkAll spare + 1
  | .agg parts => uptoBulkAll parts + 1
  | .iface _ d => uptoBulk d + 1
  | .map entries => uptoBulkEntries entries + 1
  | .held _ => 1
def uptoBulkAll {H : Type} : List (DataW H) → Nat
  | [] => 0
  | d :: r => uptoBulk d + uptoBulkAll r
def uptoBulkEntries {H : Type} : List (Lit × DataW H) → Nat
  | [] => 0
  | x :: r => uptoBulkEntry x + uptoBulkEntries r
def uptoBulkEntry {H : Type} : Lit × DataW H → Nat
  | (.string bytes, d) => bytes.length + uptoBulk d + 1
  | (_, d) => uptoBulk d + 1
 end
def uptoSmall : (H : Type) → List (DataW H) → Bool := fun _ ds => decide (uptoBulkAll ds ≤ 1048576)
def OpenSpec.upto (s : _root_.Go.ChangeSpec) : _root_.Go.OpenSpec := { _root_.Go.OpenSpec.ofChange s with cond := some uptoSmall }

/-- 'sparselaw20.SymbolicReach', WHERE WHAT IT READS IS OF BULK AT MOST 1048576: true; the input reads as it did. -/
def symbolicReachUptoRow : OpenClaim := { program := "ytlalecmgnaoiiaa", sum := "a76254b257c2b3100db327dff19c1443a517f7b75abed196260e03586c872b7a", func := "sparse/sparselaw20.SymbolicReach", spec := "symbolicReach", apart := false, narrowed := true }
def SymbolicReachUptoSaid : Prop := symbolicReachUptoRow.holds Try.pinned (OpenSpec.upto symbolicReachSpec)

/-- 'sparselaw20.SymbolicPaths', WHERE WHAT IT READS IS OF BULK AT MOST 1048576: true; the input reads as it did. -/
def symbolicPathsUptoRow : OpenClaim := { program := "ytlalecmgnaoiiaa", sum := "a76254b257c2b3100db327dff19c1443a517f7b75abed196260e03586c872b7a", func := "sparse/sparselaw20.SymbolicPaths", spec := "symbolicPaths", apart := false, narrowed := true }
def SymbolicPathsUptoSaid : Prop := symbolicPathsUptoRow.holds Try.pinned (OpenSpec.upto symbolicPathsSpec)

/-- 'sparselaw20.SymbolicTree', WHERE WHAT IT READS IS OF BULK AT MOST 1048576: true; the input reads as it did. -/
def symbolicTreeUptoRow : OpenClaim := { program := "ytlalecmgnaoiiaa", sum := "a76254b257c2b3100db327dff19c1443a517f7b75abed196260e03586c872b7a", func := "sparse/sparselaw20.SymbolicTree", spec := "symbolicTree", apart := false, narrowed := true }
def SymbolicTreeUptoSaid : Prop := symbolicTreeUptoRow.holds Try.pinned (OpenSpec.upto symbolicTreeSpec)

/-- 'sparselaw20.SymbolicSolve', WHERE WHAT IT READS IS OF BULK AT MOST 1048576: true; the input reads as it did. -/
def symbolicSolveUptoRow : OpenClaim := { program := "ytlalecmgnaoiiaa", sum := "a76254b257c2b3100db327dff19c1443a517f7b75abed196260e03586c872b7a", func := "sparse/sparselaw20.SymbolicSolve", spec := "symbolicSolve", apart := false, narrowed := true }
def SymbolicSolveUptoSaid : Prop := symbolicSolveUptoRow.holds Try.pinned (OpenSpec.upto symbolicSolveSpec)

/-- 'sparselaw20.SymbolicRows', WHERE WHAT IT READS IS OF BULK AT MOST 1048576: true; the input reads as it did. -/
def symbolicRowsUptoRow : OpenClaim := { program := "ytlalecmgnaoiiaa", sum := "a76254b257c2b3100db327dff19c1443a517f7b75abed196260e03586c872b7a", func := "sparse/sparselaw20.SymbolicRows", spec := "symbolicRows", apart := false, narrowed := true }
def SymbolicRowsUptoSaid : Prop := symbolicRowsUptoRow.holds Try.pinned (OpenSpec.upto symbolicRowsSpec)

/-- 'sparselaw20.SymbolicAny', WHERE WHAT IT READS IS OF BULK AT MOST 1048576: true; the input reads as it did. -/
def symbolicAnyUptoRow : OpenClaim := { program := "ytlalecmgnaoiiaa", sum := "a76254b257c2b3100db327dff19c1443a517f7b75abed196260e03586c872b7a", func := "sparse/sparselaw20.SymbolicAny", spec := "symbolicAny", unfollowed := true, recurses := true, apart := false, narrowed := true }
def SymbolicAnyUptoSaid : Prop := symbolicAnyUptoRow.holds Try.pinned (OpenSpec.upto symbolicAnySpec)

/-- 'sparselaw20.SymbolicMade', WHERE WHAT IT READS IS OF BULK AT MOST 1048576: true; the input reads as it did. -/
def symbolicMadeUptoRow : OpenClaim := { program := "ytlalecmgnaoiiaa", sum := "a76254b257c2b3100db327dff19c1443a517f7b75abed196260e03586c872b7a", func := "sparse/sparselaw20.SymbolicMade", spec := "symbolicMade", unfollowed := true, recurses := true, apart := false, narrowed := true }
def SymbolicMadeUptoSaid : Prop := symbolicMadeUptoRow.holds Try.pinned (OpenSpec.upto symbolicMadeSpec)

/-- 'sparselaw20.SymbolicFill', WHERE WHAT IT READS IS OF BULK AT MOST 1048576: true; the input reads as it did. -/
def symbolicFillUptoRow : OpenClaim := { program := "ytlalecmgnaoiiaa", sum := "a76254b257c2b3100db327dff19c1443a517f7b75abed196260e03586c872b7a", func := "sparse/sparselaw20.SymbolicFill", spec := "symbolicFill", unfollowed := true, recurses := true, apart := false, narrowed := true }
def SymbolicFillUptoSaid : Prop := symbolicFillUptoRow.holds Try.pinned (OpenSpec.upto symbolicFillSpec)

end Rows
end Go.Proofs.Ytlalecmgnaoiiaa
