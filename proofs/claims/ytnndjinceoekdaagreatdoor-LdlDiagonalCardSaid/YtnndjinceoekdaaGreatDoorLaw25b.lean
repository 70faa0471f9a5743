/-
  The law LdlDiagonal: it returns true, whatever its arguments are, and they read as they did; on condition that the library's table math/bits.deBruijn32tab reads as listed.
-/
import Derived.Test.YtnndjinceoekdaaGreatDoorB0d59ef93
import Derived.Test.YtnndjinceoekdaaGreatDoorRows
import Derived.ProofKit
import Derived.SevenTiedAt
import Derived.Test.YtnndjinceoekdaaGreatDoorTie
import Derived.Test.YtnndjinceoekdaaGreatDoorCards

namespace Go.Proofs.YtnndjinceoekdaaGreatDoor
open Go.jm

theorem Tryz.own : ownKnob Tryz.prog.godebug = none := by kernel_rfl
theorem Tryz.laidOut : laidOutB Tryz.prog = true := by kernel_rfl
theorem WC : ∀ a, pI vI.ps a → ∃ b, vI.xU a = some b ∧ iY vI.rs (it vI.ps b) = [⟨.bool, true⟩] :=
  fun a h => ⟨(true, ()), RO a.1 a.2.1 a.2.2.1 (dh h.1.1 (by decide)), rfl⟩

set_option maxRecDepth 100000 in
theorem WA (os : Os) (JL : os.Started) (H : Type) (enc : TypeId × Value → H) :
    ReturnsInHanded {} Tryz.checked os 6 .any (fun w args => (Rows.ldlDiagonalSpec.pre enc Tryz.prog Tryz.f6 [] false w args ∧ laidMetH Tryz.prog AR w) ∧ sizedMet enc Tryz.prog Tryz.f6 (OpenSpec.ofChange Rows.ldlDiagonalSpec) false w args) (Rows.ldlDiagonalSpec.post enc Tryz.prog Tryz.f6 false true false false) := by
  refine returnsInHanded_of_change_and (C := Tryz.checked) (X := fun w _ => laidMetH Tryz.prog AR w) (fun _ _ _ DJ h => h.of_heap DJ) Tryz.own JL (by kernel_rfl) Tryz.func6
    (ChangeSpec.witness_shaped (enc := enc) (C := Tryz.checked) (os := os) (X := fun w _ => laidMetH Tryz.prog AR w) false (World.doorLaid Tryz.prog 400 os) #[.slice none 0 0, .int .i64 0, .int .i64 0] 8 rfl (World.shaped_of_RefB (by kernel_rfl) (by kernel_rfl)) (by kernel_rfl) (by kernel_rfl) (by kernel_rfl) (adh os _)) ?_
  intro W base args ds gs aek VS VK _ _ VJ _
  exact Ws (E := E) (F := vI) (T := 4) aan Tryz.laidOut (by kernel_rfl) (by kernel_rfl) rfl (by kernel_rfl) (by kernel_rfl) rfl
    (fun ds h => by match ds, h with | [_, _, _], _ => rfl) WC VS VK (adg VJ)

theorem Ww : (Rows.ldlDiagonalRow.inPlace == Tryz.prog.inPlace 6) = true := by kernel_rfl
theorem Wx : (Rows.ldlDiagonalRow.unfollowed == Tryz.prog.unfollowed 6) = true := by kernel_rfl
theorem Wy : (Rows.ldlDiagonalRow.recurses == Tryz.prog.recurses 6) = true := by kernel_rfl
theorem Wz : (Rows.ldlDiagonalRow.named == Tryz.prog.varsNamed 6) = true := by kernel_rfl
theorem Wv : joinedFacts Tryz.prog 6 Tryz.f6 Rows.ldlDiagonalSpec Rows.ldlDiagonalRow = true := by
  unfold joinedFacts
  rw [Ww, Wx, Wy, Wz]
  kernel_rfl
theorem Nz : Tryz.prog.funcNamed Rows.ldlDiagonalRow.func = some 6 := by kernel_rfl
theorem WB : Rows.LdlDiagonalSaid :=
  OpenClaim.holds_of_wide 6 Tryz.f6 rfl rfl rfl rfl rfl rfl rfl ⟨rfl, rfl, rfl, rfl, rfl⟩ rfl rfl rfl rfl rfl Nz Tryz.func6 Wv
    (of_decide_eq_true (by kernel_rfl)) (by unfold Func.isWrapper; first | (rw [au (by decide +kernel)]; kernel_rfl) | (rw [aw (by decide +kernel)]; exact ⟨rfl, rfl⟩))
    (fun os JL H enc _ => WA os JL H enc)
theorem VA {P : Program} (h : P.funcs.toList.all (fun fn => !fn.goes) = true) (f : FuncId) : P.goes f = false := by
  have DI : ∀ fn ∈ P.funcs, fn.goes = false := fun fn HO => by
    have := g0.1 h fn (Array.mem_toList_iff.2 HO)
    simpa using this
  unfold Program.goes
  rw [Bool.or_eq_false_iff]
  constructor
  · rw [tE]
    intro g _
    cases M7 : P.funcs[g]? with
    | none => simp
    | some fn => simp [DI fn (Array.mem_of_getElem? M7)]
  · rw [Bool.and_eq_false_iff]
    right
    rw [Array.any_eq_false]
    intro i hi
    simp [DI _ (Array.getElem_mem hi)]
theorem VB {P : Program} {c : OpenClaim} (h : P.funcs.toList.all (fun fn => !fn.goes) = true) (hs : c.start = .entering) : false = c.goesBy P := by
  unfold OpenClaim.goesBy Program.goesAt Program.goesFrom
  rw [hs]
  cases P.funcNamed c.func with
  | none => rfl
  | some f => simp [VA h f]
theorem Tryz.XI : (Tryz.prog.funcs.toList.all fun fn => !fn.goes) = true := by kernel_rfl
theorem ldlDiagonal_holds : Rows.LdlDiagonalCardSaid :=
  Claim7.holds_tied_plain_at .later [] [.data] true (true, "72b9763bb0eb8e1bc6719869284af4b6cb935b1bab46443f658e2e6dd2eebb38") false
    WB (fun _ h => by cases h) (by kernel_rfl) (fun _ h => by cases h) ldlDiagonal_row_tie rfl ⟨rfl, rfl⟩ (by kernel_rfl) rfl
    (fun f fn HO VQ => by
      obtain rfl : f = 6 := (gD (Nz.symm.trans HO)).symm
      obtain rfl : fn = Tryz.f6 := (gD (Tryz.func6.symm.trans VQ)).symm
      exact ⟨by kernel_rfl, fun j t uO => by
        rw [Tryz.params6] at uO
        have M8 : t ∈ [22, 3, 3] := by simpa using Array.mem_of_getElem? uO
        have VL : ([22, 3, 3].all fun u => !Tryz.prog.wantsStandIn u) = true := by kernel_rfl
        exact (show Tryz.prog.wantsStandIn t = false by simpa using g0.1 VL t M8)⟩)
    (VB Tryz.XI rfl)
end Go.Proofs.YtnndjinceoekdaaGreatDoor
