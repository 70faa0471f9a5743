/-
  The law LdlFactors: it returns true, whatever its arguments are, and they read as they did; on condition that the library's table math/bits.deBruijn32tab reads as listed.
-/
import Derived.Test.YtnndjinceoekdaaGreatDoorB2ae74d28
import Derived.Test.YtnndjinceoekdaaGreatDoorRows
import Derived.ProofKit
import Derived.SevenTiedAt
import Derived.Test.YtnndjinceoekdaaGreatDoorTie
import Derived.Test.YtnndjinceoekdaaGreatDoorCards

namespace Go.Proofs.YtnndjinceoekdaaGreatDoor
open Go.jg

theorem Tryz.own : ownKnob Tryz.prog.godebug = none := by kernel_rfl
theorem Tryz.laidOut : laidOutB Tryz.prog = true := by kernel_rfl
theorem WW : ∀ a, pE vY.ps a → ∃ b, vY.x4 a = some b ∧ iT vY.rs (ik vY.ps b) = [⟨.bool, true⟩] :=
  fun a h => ⟨(true, ()), Sb a.1 a.2.1 a.2.2.1 a.2.2.2.1 a.2.2.2.2.1 (ez h.1.1 (by decide)) (ez h.2.2.2.2.1.1 (by decide)), rfl⟩

set_option maxRecDepth 100000 in
theorem WU (os : Os) (J0 : os.Started) (H : Type) (enc : TypeId × Value → H) :
    ReturnsInHanded {} Tryz.checked os 3 .any (fun w args => (Rows.ldlFactorsSpec.pre enc Tryz.prog Tryz.f3 [] false w args ∧ laidMetH Tryz.prog Bg w) ∧ sizedMet enc Tryz.prog Tryz.f3 (OpenSpec.ofChange Rows.ldlFactorsSpec) false w args) (Rows.ldlFactorsSpec.post enc Tryz.prog Tryz.f3 false true false false) := by
  refine returnsInHanded_of_change_and (C := Tryz.checked) (X := fun w _ => laidMetH Tryz.prog Bg w) (fun _ _ _ Ec h => h.of_heap Ec) Tryz.own J0 (by kernel_rfl) Tryz.func3
    (ChangeSpec.witness_shaped (enc := enc) (C := Tryz.checked) (os := os) (X := fun w _ => laidMetH Tryz.prog Bg w) false (World.doorLaid Tryz.prog 400 os) #[.slice none 0 0, .int .i64 0, .int .i64 0, .bool false, .slice none 0 0] 8 rfl (World.shaped_of_RefB (by kernel_rfl) (by kernel_rfl)) (by kernel_rfl) (by kernel_rfl) (by kernel_rfl) (adM os _)) ?_
  intro W base args ds gs ae0 Wc V4 _ _ V3 _
  exact WM (E := E) (F := vY) (T := 4) Z8 Tryz.laidOut (by kernel_rfl) (by kernel_rfl) rfl (by kernel_rfl) (by kernel_rfl) rfl
    (fun ds h => by match ds, h with | [_, _, _, _, _], _ => rfl) WW Wc V4 (adL V3)

theorem WQ : (Rows.ldlFactorsRow.inPlace == Tryz.prog.inPlace 3) = true := by kernel_rfl
theorem WR : (Rows.ldlFactorsRow.unfollowed == Tryz.prog.unfollowed 3) = true := by kernel_rfl
theorem WS : (Rows.ldlFactorsRow.recurses == Tryz.prog.recurses 3) = true := by kernel_rfl
theorem WT : (Rows.ldlFactorsRow.named == Tryz.prog.varsNamed 3) = true := by kernel_rfl
theorem WP : joinedFacts Tryz.prog 3 Tryz.f3 Rows.ldlFactorsSpec Rows.ldlFactorsRow = true := by
  unfold joinedFacts
  rw [WQ, WR, WS, WT]
  kernel_rfl
theorem NI : Tryz.prog.funcNamed Rows.ldlFactorsRow.func = some 3 := by kernel_rfl
theorem WV : Rows.LdlFactorsSaid :=
  OpenClaim.holds_of_wide 3 Tryz.f3 rfl rfl rfl rfl rfl rfl rfl ⟨rfl, rfl, rfl, rfl, rfl⟩ rfl rfl rfl rfl rfl NI Tryz.func3 WP
    (of_decide_eq_true (by kernel_rfl)) (by unfold Func.isWrapper; first | (rw [au (by decide +kernel)]; kernel_rfl) | (rw [az (by decide +kernel)]; exact ⟨rfl, rfl⟩))
    (fun os J0 H enc _ => WU os J0 H enc)
theorem VU {P : Program} (h : P.funcs.toList.all (fun fn => !fn.goes) = true) (f : FuncId) : P.goes f = false := by
  have Eb : ∀ fn ∈ P.funcs, fn.goes = false := fun fn H2 => by
    have := g0.1 h fn (Array.mem_toList_iff.2 H2)
    simpa using this
  unfold Program.goes
  rw [Bool.or_eq_false_iff]
  constructor
  · rw [tL]
    intro g _
    cases Ni : P.funcs[g]? with
    | none => simp
    | some fn => simp [Eb fn (Array.mem_of_getElem? Ni)]
  · rw [Bool.and_eq_false_iff]
    right
    rw [Array.any_eq_false]
    intro i hi
    simp [Eb _ (Array.getElem_mem hi)]
theorem VV {P : Program} {c : OpenClaim} (h : P.funcs.toList.all (fun fn => !fn.goes) = true) (hs : c.start = .entering) : false = c.goesBy P := by
  unfold OpenClaim.goesBy Program.goesAt Program.goesFrom
  rw [hs]
  cases P.funcNamed c.func with
  | none => rfl
  | some f => simp [VU h f]
theorem Tryz.X1 : (Tryz.prog.funcs.toList.all fun fn => !fn.goes) = true := by kernel_rfl
theorem ldlFactors_holds : Rows.LdlFactorsCardSaid :=
  Claim7.holds_tied_plain_at .later [] [.data] true (true, "72b9763bb0eb8e1bc6719869284af4b6cb935b1bab46443f658e2e6dd2eebb38") false
    WV (fun _ h => by cases h) (by kernel_rfl) (fun _ h => by cases h) ldlFactors_row_tie rfl ⟨rfl, rfl⟩ (by kernel_rfl) rfl
    (fun f fn H2 Wa => by
      obtain rfl : f = 3 := (gC (NI.symm.trans H2)).symm
      obtain rfl : fn = Tryz.f3 := (gC (Tryz.func3.symm.trans Wa)).symm
      exact ⟨by kernel_rfl, fun j t u1 => by
        rw [Tryz.params3] at u1
        have Nj : t ∈ [22, 3, 3, 4, 22] := by simpa using Array.mem_of_getElem? u1
        have V5 : ([22, 3, 3, 4, 22].all fun u => !Tryz.prog.wantsStandIn u) = true := by kernel_rfl
        exact (show Tryz.prog.wantsStandIn t = false by simpa using g0.1 V5 t Nj)⟩)
    (VV Tryz.X1 rfl)
end Go.Proofs.YtnndjinceoekdaaGreatDoor
