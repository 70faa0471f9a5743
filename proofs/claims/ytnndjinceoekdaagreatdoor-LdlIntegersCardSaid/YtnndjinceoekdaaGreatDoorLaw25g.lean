/-
  The law LdlIntegers: it returns true, whatever its arguments are, and they read as they did; on condition that the library's table math/bits.deBruijn32tab reads as listed.
-/
import Derived.Test.YtnndjinceoekdaaGreatDoorBf4501549
import Derived.Test.YtnndjinceoekdaaGreatDoorRows
import Derived.ProofKit
import Derived.SevenTiedAt
import Derived.Test.YtnndjinceoekdaaGreatDoorTie
import Derived.Test.YtnndjinceoekdaaGreatDoorCards

namespace Go.Proofs.YtnndjinceoekdaaGreatDoor
open Go.jN

theorem Tryz.own : ownKnob Tryz.prog.godebug = none := by kernel_rfl
theorem Tryz.laidOut : laidOutB Tryz.prog = true := by kernel_rfl
theorem ZP : ∀ a, qA w3.ps a → ∃ b, w3.y6 a = some b ∧ jx w3.rs (iP w3.ps b) = [⟨.bool, true⟩] :=
  fun a h => ⟨(true, ()), U0 a.1 a.2.1 (cO h.1.1 (by decide)), rfl⟩

set_option maxRecDepth 100000 in
theorem ZN (os : Os) (LN : os.Started) (H : Type) (enc : TypeId × Value → H) :
    ReturnsInHanded {} Tryz.checked os 9 .any (fun w args => (Rows.ldlIntegersSpec.pre enc Tryz.prog Tryz.f9 [] false w args ∧ laidMetH Tryz.prog Cg w) ∧ sizedMet enc Tryz.prog Tryz.f9 (OpenSpec.ofChange Rows.ldlIntegersSpec) false w args) (Rows.ldlIntegersSpec.post enc Tryz.prog Tryz.f9 false true false false) := by
  refine returnsInHanded_of_change_and (C := Tryz.checked) (X := fun w _ => laidMetH Tryz.prog Cg w) (fun _ _ _ Fu h => h.of_heap Fu) Tryz.own LN (by kernel_rfl) Tryz.func9
    (ChangeSpec.witness_shaped (enc := enc) (C := Tryz.checked) (os := os) (X := fun w _ => laidMetH Tryz.prog Cg w) false (World.doorLaid Tryz.prog 400 os) #[.slice none 0 0, .int .i64 0] 8 rfl (World.shaped_of_RefB (by kernel_rfl) (by kernel_rfl)) (by kernel_rfl) (by kernel_rfl) (by kernel_rfl) (agO os _)) ?_
  intro W base args ds gs ahW YY YP _ _ YN _
  exact ZF (E := E) (F := w3) (T := 4) adL Tryz.laidOut (by kernel_rfl) (by kernel_rfl) rfl (by kernel_rfl) (by kernel_rfl) rfl
    (fun ds h => by match ds, h with | [_, _], _ => rfl) ZP YY YP (agN YN)

theorem ZJ : (Rows.ldlIntegersRow.inPlace == Tryz.prog.inPlace 9) = true := by kernel_rfl
theorem ZK : (Rows.ldlIntegersRow.unfollowed == Tryz.prog.unfollowed 9) = true := by kernel_rfl
theorem ZL : (Rows.ldlIntegersRow.recurses == Tryz.prog.recurses 9) = true := by kernel_rfl
theorem ZM : (Rows.ldlIntegersRow.named == Tryz.prog.varsNamed 9) = true := by kernel_rfl
theorem ZI : joinedFacts Tryz.prog 9 Tryz.f9 Rows.ldlIntegersSpec Rows.ldlIntegersRow = true := by
  unfold joinedFacts
  rw [ZJ, ZK, ZL, ZM]
  kernel_rfl
theorem P8 : Tryz.prog.funcNamed Rows.ldlIntegersRow.func = some 9 := by kernel_rfl
theorem ZO : Rows.LdlIntegersSaid :=
  OpenClaim.holds_of_wide 9 Tryz.f9 rfl rfl rfl rfl rfl rfl rfl ⟨rfl, rfl, rfl, rfl, rfl⟩ rfl rfl rfl rfl rfl P8 Tryz.func9 ZI
    (of_decide_eq_true (by kernel_rfl)) (by unfold Func.isWrapper; first | (rw [au (by decide +kernel)]; kernel_rfl) | (rw [ar (by decide +kernel)]; exact ⟨rfl, rfl⟩))
    (fun os LN H enc _ => ZN os LN H enc)
theorem YH {P : Program} (h : P.funcs.toList.all (fun fn => !fn.goes) = true) (f : FuncId) : P.goes f = false := by
  have Bg : ∀ fn ∈ P.funcs, fn.goes = false := fun fn JD => by
    have := g7.1 h fn (Array.mem_toList_iff.2 JD)
    simpa using this
  unfold Program.goes
  rw [Bool.or_eq_false_iff]
  constructor
  · rw [uQ]
    intro g _
    cases PF : P.funcs[g]? with
    | none => simp
    | some fn => simp [Bg fn (Array.mem_of_getElem? PF)]
  · rw [Bool.and_eq_false_iff]
    right
    rw [Array.any_eq_false]
    intro i hi
    simp [Bg _ (Array.getElem_mem hi)]
theorem YI {P : Program} {c : OpenClaim} (h : P.funcs.toList.all (fun fn => !fn.goes) = true) (hs : c.start = .entering) : false = c.goesBy P := by
  unfold OpenClaim.goesBy Program.goesAt Program.goesFrom
  rw [hs]
  cases P.funcNamed c.func with
  | none => rfl
  | some f => simp [YH h f]
theorem Tryz.aaR : (Tryz.prog.funcs.toList.all fun fn => !fn.goes) = true := by kernel_rfl
theorem ldlIntegers_holds : Rows.LdlIntegersCardSaid :=
  Claim7.holds_tied_plain_at .later [] [.data] true (true, "72b9763bb0eb8e1bc6719869284af4b6cb935b1bab46443f658e2e6dd2eebb38") false
    ZO (fun _ h => by cases h) (by kernel_rfl) (fun _ h => by cases h) ldlIntegers_row_tie rfl ⟨rfl, rfl⟩ (by kernel_rfl) rfl
    (fun f fn JD YV => by
      obtain rfl : f = 9 := (gC (P8.symm.trans JD)).symm
      obtain rfl : fn = Tryz.f9 := (gC (Tryz.func9.symm.trans YV)).symm
      exact ⟨by kernel_rfl, fun j t pS => by
        rw [Tryz.params9] at pS
        have PG : t ∈ [22, 3] := by simpa using Array.mem_of_getElem? pS
        have YR : ([22, 3].all fun u => !Tryz.prog.wantsStandIn u) = true := by kernel_rfl
        exact (show Tryz.prog.wantsStandIn t = false by simpa using g7.1 YR t PG)⟩)
    (YI Tryz.aaR rfl)
end Go.Proofs.YtnndjinceoekdaaGreatDoor
