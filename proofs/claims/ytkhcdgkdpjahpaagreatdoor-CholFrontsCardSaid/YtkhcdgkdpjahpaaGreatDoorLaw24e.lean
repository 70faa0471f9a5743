/-
  The law CholFronts: it returns true, whatever its arguments are, and they read as they did; on condition that the library's table math/bits.deBruijn32tab reads as listed.
-/
import Derived.Test.YtkhcdgkdpjahpaaGreatDoorB1fc83ca5
import Derived.Test.YtkhcdgkdpjahpaaGreatDoorRows
import Derived.ProofKit
import Derived.SevenTiedAt
import Derived.Test.YtkhcdgkdpjahpaaGreatDoorTie
import Derived.Test.YtkhcdgkdpjahpaaGreatDoorCards

namespace Go.Proofs.YtkhcdgkdpjahpaaGreatDoor
open Go.hT

theorem Tryz.own : ownKnob Tryz.prog.godebug = none := by kernel_rfl
theorem Tryz.laidOut : laidOutB Tryz.prog = true := by kernel_rfl
theorem SQ : ∀ a, nV tJ.ps a → ∃ b, tJ.vy a = some b ∧ hB tJ.rs (gU tJ.ps b) = [⟨.bool, true⟩] :=
  fun a h => ⟨(true, ()), NC a.1 a.2.1 a.2.2.1 a.2.2.2.1 a.2.2.2.2.1 (dn h.1.1 (by decide)) (dn h.2.2.2.2.1.1 (by decide)), rfl⟩

set_option maxRecDepth 100000 in
theorem SO (os : Os) (Gd : os.Started) (H : Type) (enc : TypeId × Value → H) :
    ReturnsInHanded {} Tryz.checked os 8 .any (fun w args => (Rows.cholFrontsSpec.pre enc Tryz.prog Tryz.f8 [] false w args ∧ laidMetH Tryz.prog yu w) ∧ sizedMet enc Tryz.prog Tryz.f8 (OpenSpec.ofChange Rows.cholFrontsSpec) false w args) (Rows.cholFrontsSpec.post enc Tryz.prog Tryz.f8 false true false false) := by
  refine returnsInHanded_of_change_and (C := Tryz.checked) (X := fun w _ => laidMetH Tryz.prog yu w) (fun _ _ _ Bl h => h.of_heap Bl) Tryz.own Gd (by kernel_rfl) Tryz.func8
    (ChangeSpec.witness_shaped (enc := enc) (C := Tryz.checked) (os := os) (X := fun w _ => laidMetH Tryz.prog yu w) false (World.doorLaid Tryz.prog 400 os) #[.slice none 0 0, .int .i64 0, .int .i64 0, .bool false, .slice none 0 0] 8 rfl (World.shaped_of_RefB (by kernel_rfl) (by kernel_rfl)) (by kernel_rfl) (by kernel_rfl) (by kernel_rfl) (aaV os _)) ?_
  intro W base args ds gs abC UY UQ _ _ UP _
  exact Vt (E := E) (F := tJ) (T := 4) YO Tryz.laidOut (by kernel_rfl) (by kernel_rfl) rfl (by kernel_rfl) (by kernel_rfl) rfl
    (fun ds h => by match ds, h with | [_, _, _, _, _], _ => rfl) SQ UY UQ (aaU UP)

theorem SK : (Rows.cholFrontsRow.inPlace == Tryz.prog.inPlace 8) = true := by kernel_rfl
theorem SL : (Rows.cholFrontsRow.unfollowed == Tryz.prog.unfollowed 8) = true := by kernel_rfl
theorem SM : (Rows.cholFrontsRow.recurses == Tryz.prog.recurses 8) = true := by kernel_rfl
theorem SN : (Rows.cholFrontsRow.named == Tryz.prog.varsNamed 8) = true := by kernel_rfl
theorem SJ : joinedFacts Tryz.prog 8 Tryz.f8 Rows.cholFrontsSpec Rows.cholFrontsRow = true := by
  unfold joinedFacts
  rw [SK, SL, SM, SN]
  kernel_rfl
theorem H6 : Tryz.prog.funcNamed Rows.cholFrontsRow.func = some 8 := by kernel_rfl
theorem SP : Rows.CholFrontsSaid :=
  OpenClaim.holds_of_wide 8 Tryz.f8 rfl rfl rfl rfl rfl rfl rfl ⟨rfl, rfl, rfl, rfl, rfl⟩ rfl rfl rfl rfl rfl H6 Tryz.func8 SJ
    (of_decide_eq_true (by kernel_rfl)) (by unfold Func.isWrapper; first | (rw [if_pos (by decide +kernel)]; kernel_rfl) | (rw [if_neg (by decide +kernel)]; exact ⟨rfl, rfl⟩))
    (fun os Gd H enc _ => SO os Gd H enc)
theorem cholFronts_holds : Rows.CholFrontsCardSaid :=
  Claim7.holds_tied_plain_at .later [] [.data] true (true, "0636b7c1f3e5d2813aad18fcaf1333dcdd944d6c8213ce75241e944d4ced4571") false
    SP (fun _ h => by cases h) (by kernel_rfl) (fun _ h => by cases h) cholFronts_row_tie rfl ⟨rfl, rfl⟩ (by kernel_rfl) rfl
    (fun f fn UV UW => by
      obtain rfl : f = 8 := (dV (H6.symm.trans UV)).symm
      obtain rfl : fn = Tryz.f8 := (dV (Tryz.func8.symm.trans UW)).symm
      exact ⟨by kernel_rfl, fun j t sU => by
        rw [Tryz.params8] at sU
        have Jt : t ∈ [22, 3, 3, 4, 22] := by simpa using Array.mem_of_getElem? sU
        have UR : ([22, 3, 3, 4, 22].all fun u => !Tryz.prog.wantsStandIn u) = true := by kernel_rfl
        exact (show Tryz.prog.wantsStandIn t = false by simpa using eM.1 UR t Jt)⟩)
    (by kernel_rfl)
end Go.Proofs.YtkhcdgkdpjahpaaGreatDoor
