/-
  The law LdlRefuses: it returns true, whatever its arguments are, and they read as they did; on condition that the library's table math/bits.deBruijn32tab reads as listed.
-/
import Derived.Test.YtnndjinceoekdaaGreatDoorB1401e350
import Derived.Test.YtnndjinceoekdaaGreatDoorRows
import Derived.ProofKit
import Derived.SevenTiedAt
import Derived.Test.YtnndjinceoekdaaGreatDoorTie
import Derived.Test.YtnndjinceoekdaaGreatDoorCards

namespace Go.Proofs.YtnndjinceoekdaaGreatDoor
open Go.l0

theorem Tryz.own : ownKnob Tryz.prog.godebug = none := by kernel_rfl
theorem Tryz.laidOut : laidOutB Tryz.prog = true := by kernel_rfl
theorem ZE : ∀ a, qn xd.ps a → ∃ b, xd.Cw a = some b ∧ lN xd.rs (kF xd.ps b) = [⟨.bool, true⟩] :=
  fun a h => ⟨(true, ()), U5 a.1 a.2.1 a.2.2.1 a.2.2.2.1 a.2.2.2.2.1 (dk h.1.1 (by decide)), rfl⟩

set_option maxRecDepth 100000 in
theorem ZC (os : Os) (L3 : os.Started) (H : Type) (enc : TypeId × Value → H) :
    ReturnsInHanded {} Tryz.checked os 7 .any (fun w args => (Rows.ldlRefusesSpec.pre enc Tryz.prog Tryz.f7 [] false w args ∧ laidMetH Tryz.prog CG w) ∧ sizedMet enc Tryz.prog Tryz.f7 (OpenSpec.ofChange Rows.ldlRefusesSpec) false w args) (Rows.ldlRefusesSpec.post enc Tryz.prog Tryz.f7 false true false false) := by
  refine returnsInHanded_of_change_and (C := Tryz.checked) (X := fun w _ => laidMetH Tryz.prog CG w) (fun _ _ _ FQ h => h.of_heap FQ) Tryz.own L3 (by kernel_rfl) Tryz.func7
    (ChangeSpec.witness_shaped (enc := enc) (C := Tryz.checked) (os := os) (X := fun w _ => laidMetH Tryz.prog CG w) false (World.doorLaid Tryz.prog 400 os) #[.slice none 0 0, .int .i64 0, .int .i64 0, .int .i64 0, .int .i64 0] 8 rfl (World.shaped_of_RefB (by kernel_rfl) (by kernel_rfl)) (by kernel_rfl) (by kernel_rfl) (by kernel_rfl) (agt os _)) ?_
  intro W base args ds gs ahF YQ YJ _ _ YI _
  exact Zu (E := E) (F := xd) (T := 4) adz Tryz.laidOut (by kernel_rfl) (by kernel_rfl) rfl (by kernel_rfl) (by kernel_rfl) rfl
    (fun ds h => by match ds, h with | [_, _, _, _, _], _ => rfl) ZE YQ YJ (ags YI)

theorem Zy : (Rows.ldlRefusesRow.inPlace == Tryz.prog.inPlace 7) = true := by kernel_rfl
theorem Zz : (Rows.ldlRefusesRow.unfollowed == Tryz.prog.unfollowed 7) = true := by kernel_rfl
theorem ZA : (Rows.ldlRefusesRow.recurses == Tryz.prog.recurses 7) = true := by kernel_rfl
theorem ZB : (Rows.ldlRefusesRow.named == Tryz.prog.varsNamed 7) = true := by kernel_rfl
theorem Zx : joinedFacts Tryz.prog 7 Tryz.f7 Rows.ldlRefusesSpec Rows.ldlRefusesRow = true := by
  unfold joinedFacts
  rw [Zy, Zz, ZA, ZB]
  kernel_rfl
theorem P2 : Tryz.prog.funcNamed Rows.ldlRefusesRow.func = some 7 := by kernel_rfl
theorem ZD : Rows.LdlRefusesSaid :=
  OpenClaim.holds_of_wide 7 Tryz.f7 rfl rfl rfl rfl rfl rfl rfl ⟨rfl, rfl, rfl, rfl, rfl⟩ rfl rfl rfl rfl rfl P2 Tryz.func7 Zx
    (of_decide_eq_true (by kernel_rfl)) (by unfold Func.isWrapper; first | (rw [aB (by decide +kernel)]; kernel_rfl) | (rw [aA (by decide +kernel)]; exact ⟨rfl, rfl⟩))
    (fun os L3 H enc _ => ZC os L3 H enc)
theorem YA {P : Program} (h : P.funcs.toList.all (fun fn => !fn.goes) = true) (f : FuncId) : P.goes f = false := by
  have FP : ∀ fn ∈ P.funcs, fn.goes = false := fun fn JX => by
    have := hp.1 h fn (Array.mem_toList_iff.2 JX)
    simpa using this
  unfold Program.goes
  rw [Bool.or_eq_false_iff]
  constructor
  · rw [uQ]
    intro g _
    cases PF : P.funcs[g]? with
    | none => simp
    | some fn => simp [FP fn (Array.mem_of_getElem? PF)]
  · rw [Bool.and_eq_false_iff]
    right
    rw [Array.any_eq_false]
    intro i hi
    simp [FP _ (Array.getElem_mem hi)]
theorem YB {P : Program} {c : OpenClaim} (h : P.funcs.toList.all (fun fn => !fn.goes) = true) (hs : c.start = .entering) : false = c.goesBy P := by
  unfold OpenClaim.goesBy Program.goesAt Program.goesFrom
  rw [hs]
  cases P.funcNamed c.func with
  | none => rfl
  | some f => simp [YA h f]
theorem Tryz.aay : (Tryz.prog.funcs.toList.all fun fn => !fn.goes) = true := by kernel_rfl
theorem ldlRefuses_holds : Rows.LdlRefusesCardSaid :=
  Claim7.holds_tied_plain_at .later [] [.data] true (true, "72b9763bb0eb8e1bc6719869284af4b6cb935b1bab46443f658e2e6dd2eebb38") false
    ZD (fun _ h => by cases h) (by kernel_rfl) (fun _ h => by cases h) ldlRefuses_row_tie rfl ⟨rfl, rfl⟩ (by kernel_rfl) rfl
    (fun f fn JX YO => by
      obtain rfl : f = 7 := (gy (P2.symm.trans JX)).symm
      obtain rfl : fn = Tryz.f7 := (gy (Tryz.func7.symm.trans YO)).symm
      exact ⟨by kernel_rfl, fun j t pP => by
        rw [Tryz.params7] at pP
        have PG : t ∈ [22, 3, 3, 3, 3] := by simpa using Array.mem_of_getElem? pP
        have YK : ([22, 3, 3, 3, 3].all fun u => !Tryz.prog.wantsStandIn u) = true := by kernel_rfl
        exact (show Tryz.prog.wantsStandIn t = false by simpa using hp.1 YK t PG)⟩)
    (YB Tryz.aay rfl)
end Go.Proofs.YtnndjinceoekdaaGreatDoor
