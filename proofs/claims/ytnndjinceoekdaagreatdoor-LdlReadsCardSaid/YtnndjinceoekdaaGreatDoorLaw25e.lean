/-
  The law LdlReads: it returns true, whatever its arguments are, and they read as they did; on condition that the library's table math/bits.deBruijn32tab reads as listed.
-/
import Derived.Test.YtnndjinceoekdaaGreatDoorBe73fe96a
import Derived.Test.YtnndjinceoekdaaGreatDoorRows
import Derived.ProofKit
import Derived.SevenTiedAt
import Derived.Test.YtnndjinceoekdaaGreatDoorTie
import Derived.Test.YtnndjinceoekdaaGreatDoorCards

namespace Go.Proofs.YtnndjinceoekdaaGreatDoor
open Go.jt

theorem Tryz.own : ownKnob Tryz.prog.godebug = none := by kernel_rfl
theorem Tryz.laidOut : laidOutB Tryz.prog = true := by kernel_rfl
theorem Yu : ∀ a, pM wB.ps a → ∃ b, wB.yQ a = some b ∧ i7 wB.rs (ig wB.ps b) = [⟨.bool, true⟩] :=
  fun a h => ⟨(true, ()), TW a.1 a.2.1 a.2.2.1 (di h.1.1 (by decide)), rfl⟩

set_option maxRecDepth 100000 in
theorem Ys (os : Os) (K8 : os.Started) (H : Type) (enc : TypeId × Value → H) :
    ReturnsInHanded {} Tryz.checked os 8 .any (fun w args => (Rows.ldlReadsSpec.pre enc Tryz.prog Tryz.f8 [] false w args ∧ laidMetH Tryz.prog BW w) ∧ sizedMet enc Tryz.prog Tryz.f8 (OpenSpec.ofChange Rows.ldlReadsSpec) false w args) (Rows.ldlReadsSpec.post enc Tryz.prog Tryz.f8 false true false false) := by
  refine returnsInHanded_of_change_and (C := Tryz.checked) (X := fun w _ => laidMetH Tryz.prog BW w) (fun _ _ _ EW h => h.of_heap EW) Tryz.own K8 (by kernel_rfl) Tryz.func8
    (ChangeSpec.witness_shaped (enc := enc) (C := Tryz.checked) (os := os) (X := fun w _ => laidMetH Tryz.prog BW w) false (World.doorLaid Tryz.prog 400 os) #[.slice none 0 0, .int .i64 0, .int .i64 0] 8 rfl (World.shaped_of_RefB (by kernel_rfl) (by kernel_rfl)) (by kernel_rfl) (by kernel_rfl) (by kernel_rfl) (afe os _)) ?_
  intro W base args ds gs agz XL XE _ _ XD _
  exact Yk (E := E) (F := wB) (T := 4) act Tryz.laidOut (by kernel_rfl) (by kernel_rfl) rfl (by kernel_rfl) (by kernel_rfl) rfl
    (fun ds h => by match ds, h with | [_, _, _], _ => rfl) Yu XL XE (afd XD)

theorem Yo : (Rows.ldlReadsRow.inPlace == Tryz.prog.inPlace 8) = true := by kernel_rfl
theorem Yp : (Rows.ldlReadsRow.unfollowed == Tryz.prog.unfollowed 8) = true := by kernel_rfl
theorem Yq : (Rows.ldlReadsRow.recurses == Tryz.prog.recurses 8) = true := by kernel_rfl
theorem Yr : (Rows.ldlReadsRow.named == Tryz.prog.varsNamed 8) = true := by kernel_rfl
theorem Yn : joinedFacts Tryz.prog 8 Tryz.f8 Rows.ldlReadsSpec Rows.ldlReadsRow = true := by
  unfold joinedFacts
  rw [Yo, Yp, Yq, Yr]
  kernel_rfl
theorem Pg : Tryz.prog.funcNamed Rows.ldlReadsRow.func = some 8 := by kernel_rfl
theorem Yt : Rows.LdlReadsSaid :=
  OpenClaim.holds_of_wide 8 Tryz.f8 rfl rfl rfl rfl rfl rfl rfl ⟨rfl, rfl, rfl, rfl, rfl⟩ rfl rfl rfl rfl rfl Pg Tryz.func8 Yn
    (of_decide_eq_true (by kernel_rfl)) (by unfold Func.isWrapper; first | (rw [ax (by decide +kernel)]; kernel_rfl) | (rw [aw (by decide +kernel)]; exact ⟨rfl, rfl⟩))
    (fun os K8 H enc _ => Ys os K8 H enc)
theorem Xv {P : Program} (h : P.funcs.toList.all (fun fn => !fn.goes) = true) (f : FuncId) : P.goes f = false := by
  have EV : ∀ fn ∈ P.funcs, fn.goes = false := fun fn IT => by
    have := gU.1 h fn (Array.mem_toList_iff.2 IT)
    simpa using this
  unfold Program.goes
  rw [Bool.or_eq_false_iff]
  constructor
  · rw [ud]
    intro g _
    cases OP : P.funcs[g]? with
    | none => simp
    | some fn => simp [EV fn (Array.mem_of_getElem? OP)]
  · rw [Bool.and_eq_false_iff]
    right
    rw [Array.any_eq_false]
    intro i hi
    simp [EV _ (Array.getElem_mem hi)]
theorem Xw {P : Program} {c : OpenClaim} (h : P.funcs.toList.all (fun fn => !fn.goes) = true) (hs : c.start = .entering) : false = c.goesBy P := by
  unfold OpenClaim.goesBy Program.goesAt Program.goesFrom
  rw [hs]
  cases P.funcNamed c.func with
  | none => rfl
  | some f => simp [Xv h f]
theorem Tryz.Zw : (Tryz.prog.funcs.toList.all fun fn => !fn.goes) = true := by kernel_rfl
theorem ldlReads_holds : Rows.LdlReadsCardSaid :=
  Claim7.holds_tied_plain_at .later [] [.data] true (true, "72b9763bb0eb8e1bc6719869284af4b6cb935b1bab46443f658e2e6dd2eebb38") false
    Yt (fun _ h => by cases h) (by kernel_rfl) (fun _ h => by cases h) ldlReads_row_tie rfl ⟨rfl, rfl⟩ (by kernel_rfl) rfl
    (fun f fn IT XJ => by
      obtain rfl : f = 8 := (gb (Pg.symm.trans IT)).symm
      obtain rfl : fn = Tryz.f8 := (gb (Tryz.func8.symm.trans XJ)).symm
      exact ⟨by kernel_rfl, fun j t pc => by
        rw [Tryz.params8] at pc
        have OQ : t ∈ [22, 3, 3] := by simpa using Array.mem_of_getElem? pc
        have XF : ([22, 3, 3].all fun u => !Tryz.prog.wantsStandIn u) = true := by kernel_rfl
        exact (show Tryz.prog.wantsStandIn t = false by simpa using gU.1 XF t OQ)⟩)
    (Xw Tryz.Zw rfl)
end Go.Proofs.YtnndjinceoekdaaGreatDoor
