/-
  The law LdlZeros: it returns true, whatever its arguments are, and they read as they did; on condition that the library's table math/bits.deBruijn32tab reads as listed.
-/
import Derived.Test.YtnndjinceoekdaaGreatDoorB7c4a795d
import Derived.Test.YtnndjinceoekdaaGreatDoorRows
import Derived.ProofKit
import Derived.SevenTiedAt
import Derived.Test.YtnndjinceoekdaaGreatDoorTie
import Derived.Test.YtnndjinceoekdaaGreatDoorCards

namespace Go.Proofs.YtnndjinceoekdaaGreatDoor
open Go.jf

theorem Tryz.own : ownKnob Tryz.prog.godebug = none := by kernel_rfl
theorem Tryz.laidOut : laidOutB Tryz.prog = true := by kernel_rfl
theorem WA : ∀ a, pG vQ.ps a → ∃ b, vQ.xW a = some b ∧ iT vQ.rs (ip vQ.ps b) = [⟨.bool, true⟩] :=
  fun a h => ⟨(true, ()), RU a.1 a.2.1 a.2.2.1 a.2.2.2.1 (eD h.1.1 (by decide)), rfl⟩

set_option maxRecDepth 100000 in
theorem Wy (os : Os) (JQ : os.Started) (H : Type) (enc : TypeId × Value → H) :
    ReturnsInHanded {} Tryz.checked os 4 .any (fun w args => (Rows.ldlZerosSpec.pre enc Tryz.prog Tryz.f4 [] false w args ∧ laidMetH Tryz.prog A3 w) ∧ sizedMet enc Tryz.prog Tryz.f4 (OpenSpec.ofChange Rows.ldlZerosSpec) false w args) (Rows.ldlZerosSpec.post enc Tryz.prog Tryz.f4 false true false false) := by
  refine returnsInHanded_of_change_and (C := Tryz.checked) (X := fun w _ => laidMetH Tryz.prog A3 w) (fun _ _ _ D2 h => h.of_heap D2) Tryz.own JQ (by kernel_rfl) Tryz.func4
    (ChangeSpec.witness_shaped (enc := enc) (C := Tryz.checked) (os := os) (X := fun w _ => laidMetH Tryz.prog A3 w) false (World.doorLaid Tryz.prog 400 os) #[.slice none 0 0, .int .i64 0, .int .i64 0, .bool false] 8 rfl (World.shaped_of_RefB (by kernel_rfl) (by kernel_rfl)) (by kernel_rfl) (by kernel_rfl) (by kernel_rfl) (adA os _)) ?_
  intro W base args ds gs aeM VP VH _ _ VG _
  exact Wq (E := E) (F := vQ) (T := 4) aai Tryz.laidOut (by kernel_rfl) (by kernel_rfl) rfl (by kernel_rfl) (by kernel_rfl) rfl
    (fun ds h => by match ds, h with | [_, _, _, _], _ => rfl) WA VP VH (adz VG)

theorem Wu : (Rows.ldlZerosRow.inPlace == Tryz.prog.inPlace 4) = true := by kernel_rfl
theorem Wv : (Rows.ldlZerosRow.unfollowed == Tryz.prog.unfollowed 4) = true := by kernel_rfl
theorem Ww : (Rows.ldlZerosRow.recurses == Tryz.prog.recurses 4) = true := by kernel_rfl
theorem Wx : (Rows.ldlZerosRow.named == Tryz.prog.varsNamed 4) = true := by kernel_rfl
theorem Wt : joinedFacts Tryz.prog 4 Tryz.f4 Rows.ldlZerosSpec Rows.ldlZerosRow = true := by
  unfold joinedFacts
  rw [Wu, Wv, Ww, Wx]
  kernel_rfl
theorem Ny : Tryz.prog.funcNamed Rows.ldlZerosRow.func = some 4 := by kernel_rfl
theorem Wz : Rows.LdlZerosSaid :=
  OpenClaim.holds_of_wide 4 Tryz.f4 rfl rfl rfl rfl rfl rfl rfl ⟨rfl, rfl, rfl, rfl, rfl⟩ rfl rfl rfl rfl rfl Ny Tryz.func4 Wt
    (of_decide_eq_true (by kernel_rfl)) (by unfold Func.isWrapper; first | (rw [au (by decide +kernel)]; kernel_rfl) | (rw [ax (by decide +kernel)]; exact ⟨rfl, rfl⟩))
    (fun os JQ H enc _ => Wy os JQ H enc)
theorem Vx {P : Program} (h : P.funcs.toList.all (fun fn => !fn.goes) = true) (f : FuncId) : P.goes f = false := by
  have D1 : ∀ fn ∈ P.funcs, fn.goes = false := fun fn HU => by
    have := gY.1 h fn (Array.mem_toList_iff.2 HU)
    simpa using this
  unfold Program.goes
  rw [Bool.or_eq_false_iff]
  constructor
  · rw [tJ]
    intro g _
    cases M7 : P.funcs[g]? with
    | none => simp
    | some fn => simp [D1 fn (Array.mem_of_getElem? M7)]
  · rw [Bool.and_eq_false_iff]
    right
    rw [Array.any_eq_false]
    intro i hi
    simp [D1 _ (Array.getElem_mem hi)]
theorem Vy {P : Program} {c : OpenClaim} (h : P.funcs.toList.all (fun fn => !fn.goes) = true) (hs : c.start = .entering) : false = c.goesBy P := by
  unfold OpenClaim.goesBy Program.goesAt Program.goesFrom
  rw [hs]
  cases P.funcNamed c.func with
  | none => rfl
  | some f => simp [Vx h f]
theorem Tryz.XG : (Tryz.prog.funcs.toList.all fun fn => !fn.goes) = true := by kernel_rfl
theorem ldlZeros_holds : Rows.LdlZerosCardSaid :=
  Claim7.holds_tied_plain_at .later [] [.data] true (true, "72b9763bb0eb8e1bc6719869284af4b6cb935b1bab46443f658e2e6dd2eebb38") false
    Wz (fun _ h => by cases h) (by kernel_rfl) (fun _ h => by cases h) ldlZeros_row_tie rfl ⟨rfl, rfl⟩ (by kernel_rfl) rfl
    (fun f fn HU VN => by
      obtain rfl : f = 4 := (gC (Ny.symm.trans HU)).symm
      obtain rfl : fn = Tryz.f4 := (gC (Tryz.func4.symm.trans VN)).symm
      exact ⟨by kernel_rfl, fun j t uZ => by
        rw [Tryz.params4] at uZ
        have M8 : t ∈ [22, 3, 3, 4] := by simpa using Array.mem_of_getElem? uZ
        have VI : ([22, 3, 3, 4].all fun u => !Tryz.prog.wantsStandIn u) = true := by kernel_rfl
        exact (show Tryz.prog.wantsStandIn t = false by simpa using gY.1 VI t M8)⟩)
    (Vy Tryz.XG rfl)
end Go.Proofs.YtnndjinceoekdaaGreatDoor
