/-
  The law CholScales: it returns true, whatever its arguments are, and they read as they did; on condition that the library's table math/bits.deBruijn32tab reads as listed.
-/
import Derived.Test.YtkhcdgkdpjahpaaGreatDoorBec951fed
import Derived.Test.YtkhcdgkdpjahpaaGreatDoorRows
import Derived.ProofKit
import Derived.SevenTiedAt
import Derived.Test.YtkhcdgkdpjahpaaGreatDoorTie
import Derived.Test.YtkhcdgkdpjahpaaGreatDoorCards

namespace Go.Proofs.YtkhcdgkdpjahpaaGreatDoor
open Go.hX

theorem Tryz.own : ownKnob Tryz.prog.godebug = none := by kernel_rfl
theorem Tryz.laidOut : laidOutB Tryz.prog = true := by kernel_rfl
theorem KV : ∀ a, mH rC.ps a → ∃ b, rC.tb a = some b ∧ gA rC.rs (fM rC.ps b) = [⟨.bool, true⟩] :=
  fun a h => ⟨(true, ()), Jb a.1 a.2.1 a.2.2.1 a.2.2.2.1 (bj h.1.1 (by decide)), rfl⟩

set_option maxRecDepth 100000 in
theorem KT (os : Os) (CG : os.Started) (H : Type) (enc : TypeId × Value → H) :
    ReturnsInHanded {} Tryz.checked os 5 .any (fun w args => (Rows.cholScalesSpec.pre enc Tryz.prog Tryz.f5 [] false w args ∧ laidMetH Tryz.prog vP w) ∧ sizedMet enc Tryz.prog Tryz.f5 (OpenSpec.ofChange Rows.cholScalesSpec) false w args) (Rows.cholScalesSpec.post enc Tryz.prog Tryz.f5 false true false false) := by
  refine returnsInHanded_of_change_and (C := Tryz.checked) (X := fun w _ => laidMetH Tryz.prog vP w) (fun _ _ _ yt h => h.of_heap yt) Tryz.own CG (by kernel_rfl) Tryz.func5
    (ChangeSpec.witness_shaped (enc := enc) (C := Tryz.checked) (os := os) (X := fun w _ => laidMetH Tryz.prog vP w) false (World.doorLaid Tryz.prog 400 os) #[.slice none 0 0, .int .i64 0, .int .i64 0, .int .i64 0] 8 rfl (World.shaped_of_RefB (by kernel_rfl) (by kernel_rfl)) (by kernel_rfl) (by kernel_rfl) (by kernel_rfl) (SS os _)) ?_
  intro W base args ds gs TM M9 M1 _ _ M0 _
  exact NL (E := E) (F := rC) (T := 4) QA Tryz.laidOut (by kernel_rfl) (by kernel_rfl) rfl (by kernel_rfl) (by kernel_rfl) rfl
    (fun ds h => by match ds, h with | [_, _, _, _], _ => rfl) KV M9 M1 (SR M0)

theorem KP : (Rows.cholScalesRow.inPlace == Tryz.prog.inPlace 5) = true := by kernel_rfl
theorem KQ : (Rows.cholScalesRow.unfollowed == Tryz.prog.unfollowed 5) = true := by kernel_rfl
theorem KR : (Rows.cholScalesRow.recurses == Tryz.prog.recurses 5) = true := by kernel_rfl
theorem KS : (Rows.cholScalesRow.named == Tryz.prog.varsNamed 5) = true := by kernel_rfl
theorem KO : joinedFacts Tryz.prog 5 Tryz.f5 Rows.cholScalesSpec Rows.cholScalesRow = true := by
  unfold joinedFacts
  rw [KP, KQ, KR, KS]
  kernel_rfl
theorem D9 : Tryz.prog.funcNamed Rows.cholScalesRow.func = some 5 := by kernel_rfl
theorem KU : Rows.CholScalesSaid :=
  OpenClaim.holds_of_wide 5 Tryz.f5 rfl rfl rfl rfl rfl rfl rfl ⟨rfl, rfl, rfl, rfl, rfl⟩ rfl rfl rfl rfl rfl D9 Tryz.func5 KO
    (of_decide_eq_true (by kernel_rfl)) (by unfold Func.isWrapper; first | (rw [ak (by decide +kernel)]; kernel_rfl) | (rw [ag (by decide +kernel)]; exact ⟨rfl, rfl⟩))
    (fun os CG H enc _ => KT os CG H enc)
theorem cholScales_holds : Rows.CholScalesCardSaid :=
  Claim7.holds_tied_plain_at .later [] [.data] true (true, "0636b7c1f3e5d2813aad18fcaf1333dcdd944d6c8213ce75241e944d4ced4571") false
    KU (fun _ h => by cases h) (by kernel_rfl) (fun _ h => by cases h) cholScales_row_tie rfl ⟨rfl, rfl⟩ (by kernel_rfl) rfl
    (fun f fn M6 M7 => by
      obtain rfl : f = 5 := (dF (D9.symm.trans M6)).symm
      obtain rfl : fn = Tryz.f5 := (dF (Tryz.func5.symm.trans M7)).symm
      exact ⟨by kernel_rfl, fun j t qV => by
        rw [Tryz.params5] at qV
        have Fj : t ∈ [22, 3, 3, 3] := by simpa using Array.mem_of_getElem? qV
        have M2 : ([22, 3, 3, 3].all fun u => !Tryz.prog.wantsStandIn u) = true := by kernel_rfl
        exact (show Tryz.prog.wantsStandIn t = false by simpa using et.1 M2 t Fj)⟩)
    (by kernel_rfl)
end Go.Proofs.YtkhcdgkdpjahpaaGreatDoor
