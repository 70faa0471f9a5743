/-
  The law LdlInertia: it returns true, whatever its arguments are, and they read as they did; on condition that the library's table math/bits.deBruijn32tab reads as listed.
-/
import Derived.Test.YtnndjinceoekdaaGreatDoorBfb1740ac
import Derived.Test.YtnndjinceoekdaaGreatDoorRows
import Derived.ProofKit
import Derived.SevenTiedAt
import Derived.Test.YtnndjinceoekdaaGreatDoorTie
import Derived.Test.YtnndjinceoekdaaGreatDoorCards

namespace Go.Proofs.YtnndjinceoekdaaGreatDoor
open Go.jy

theorem Tryz.own : ownKnob Tryz.prog.godebug = none := by kernel_rfl
theorem Tryz.laidOut : laidOutB Tryz.prog = true := by kernel_rfl
theorem Y0 : ∀ a, qe oh.ps a → ∃ b, oh.yL a = some b ∧ jn oh.rs (iE oh.ps b) = [⟨.bool, true⟩] :=
  fun a h => ⟨(true, ()), Ug a.1 a.2.1 a.2.2.1 (c4 h.1.1 (by decide)), rfl⟩

set_option maxRecDepth 100000 in
theorem YY (os : Os) (K5 : os.Started) (H : Type) (enc : TypeId × Value → H) :
    ReturnsInHanded {} Tryz.checked os 5 .any (fun w args => (Rows.ldlInertiaSpec.pre enc Tryz.prog Tryz.f5 [] false w args ∧ laidMetH Tryz.prog BW w) ∧ sizedMet enc Tryz.prog Tryz.f5 (OpenSpec.ofChange Rows.ldlInertiaSpec) false w args) (Rows.ldlInertiaSpec.post enc Tryz.prog Tryz.f5 false true false false) := by
  refine returnsInHanded_of_change_and (C := Tryz.checked) (X := fun w _ => laidMetH Tryz.prog BW w) (fun _ _ _ E5 h => h.of_heap E5) Tryz.own K5 (by kernel_rfl) Tryz.func5
    (ChangeSpec.witness_shaped (enc := enc) (C := Tryz.checked) (os := os) (X := fun w _ => laidMetH Tryz.prog BW w) false (World.doorLaid Tryz.prog 400 os) #[.slice none 0 0, .int .i64 0, .int .i64 0] 8 rfl (World.shaped_of_RefB (by kernel_rfl) (by kernel_rfl)) (by kernel_rfl) (by kernel_rfl) (by kernel_rfl) (afN os _)) ?_
  intro W base args ds gs agW Ye X6 _ _ X4 _
  exact YQ (E := E) (F := oh) (T := 4) acF Tryz.laidOut (by kernel_rfl) (by kernel_rfl) rfl (by kernel_rfl) (by kernel_rfl) rfl
    (fun ds h => by match ds, h with | [_, _, _], _ => rfl) Y0 Ye X6 (afM X4)

theorem YU : (Rows.ldlInertiaRow.inPlace == Tryz.prog.inPlace 5) = true := by kernel_rfl
theorem YV : (Rows.ldlInertiaRow.unfollowed == Tryz.prog.unfollowed 5) = true := by kernel_rfl
theorem YW : (Rows.ldlInertiaRow.recurses == Tryz.prog.recurses 5) = true := by kernel_rfl
theorem YX : (Rows.ldlInertiaRow.named == Tryz.prog.varsNamed 5) = true := by kernel_rfl
theorem YT : joinedFacts Tryz.prog 5 Tryz.f5 Rows.ldlInertiaSpec Rows.ldlInertiaRow = true := by
  unfold joinedFacts
  rw [YU, YV, YW, YX]
  kernel_rfl
theorem Pg : Tryz.prog.funcNamed Rows.ldlInertiaRow.func = some 5 := by kernel_rfl
theorem YZ : Rows.LdlInertiaSaid :=
  OpenClaim.holds_of_wide 5 Tryz.f5 rfl rfl rfl rfl rfl rfl rfl ⟨rfl, rfl, rfl, rfl, rfl⟩ rfl rfl rfl rfl rfl Pg Tryz.func5 YT
    (of_decide_eq_true (by kernel_rfl)) (by unfold Func.isWrapper; first | (rw [aw (by decide +kernel)]; kernel_rfl) | (rw [au (by decide +kernel)]; exact ⟨rfl, rfl⟩))
    (fun os K5 H enc _ => YY os K5 H enc)
theorem XY {P : Program} (h : P.funcs.toList.all (fun fn => !fn.goes) = true) (f : FuncId) : P.goes f = false := by
  have AX : ∀ fn ∈ P.funcs, fn.goes = false := fun fn I4 => by
    have := g0.1 h fn (Array.mem_toList_iff.2 I4)
    simpa using this
  unfold Program.goes
  rw [Bool.or_eq_false_iff]
  constructor
  · rw [uw]
    intro g _
    cases OR : P.funcs[g]? with
    | none => simp
    | some fn => simp [AX fn (Array.mem_of_getElem? OR)]
  · rw [Bool.and_eq_false_iff]
    right
    rw [Array.any_eq_false]
    intro i hi
    simp [AX _ (Array.getElem_mem hi)]
theorem XZ {P : Program} {c : OpenClaim} (h : P.funcs.toList.all (fun fn => !fn.goes) = true) (hs : c.start = .entering) : false = c.goesBy P := by
  unfold OpenClaim.goesBy Program.goesAt Program.goesFrom
  rw [hs]
  cases P.funcNamed c.func with
  | none => rfl
  | some f => simp [XY h f]
theorem Tryz.Z2 : (Tryz.prog.funcs.toList.all fun fn => !fn.goes) = true := by kernel_rfl
theorem ldlInertia_holds : Rows.LdlInertiaCardSaid :=
  Claim7.holds_tied_plain_at .later [] [.data] true (true, "72b9763bb0eb8e1bc6719869284af4b6cb935b1bab46443f658e2e6dd2eebb38") false
    YZ (fun _ h => by cases h) (by kernel_rfl) (fun _ h => by cases h) ldlInertia_row_tie rfl ⟨rfl, rfl⟩ (by kernel_rfl) rfl
    (fun f fn I4 Yb => by
      obtain rfl : f = 5 := (gq (Pg.symm.trans I4)).symm
      obtain rfl : fn = Tryz.f5 := (gq (Tryz.func5.symm.trans Yb)).symm
      exact ⟨by kernel_rfl, fun j t px => by
        rw [Tryz.params5] at px
        have OS : t ∈ [22, 3, 3] := by simpa using Array.mem_of_getElem? px
        have X7 : ([22, 3, 3].all fun u => !Tryz.prog.wantsStandIn u) = true := by kernel_rfl
        exact (show Tryz.prog.wantsStandIn t = false by simpa using g0.1 X7 t OS)⟩)
    (XZ Tryz.Z2 rfl)
end Go.Proofs.YtnndjinceoekdaaGreatDoor
