/-
  The law CholErrors: it returns true, whatever its arguments are, and they read as they did; on condition that the library's table math/bits.deBruijn32tab reads as listed.
-/
import Derived.Test.YtkhcdgkdpjahpaaGreatDoorB93386189
import Derived.Test.YtkhcdgkdpjahpaaGreatDoorRows
import Derived.ProofKit
import Derived.SevenTiedAt
import Derived.Test.YtkhcdgkdpjahpaaGreatDoorTie
import Derived.Test.YtkhcdgkdpjahpaaGreatDoorCards

namespace Go.Proofs.YtkhcdgkdpjahpaaGreatDoor
open Go.h1

theorem Tryz.own : ownKnob Tryz.prog.godebug = none := by kernel_rfl
theorem Tryz.laidOut : laidOutB Tryz.prog = true := by kernel_rfl
theorem K7 : ∀ a, mJ rC.ps a → ∃ b, rC.s6 a = some b ∧ gy rC.rs (fK rC.ps b) = [⟨.bool, true⟩] :=
  fun a h => ⟨(true, ()), Jr a.1 a.2.1 a.2.2.1 (bt h.1.1 (by decide)), rfl⟩

set_option maxRecDepth 100000 in
theorem K5 (os : Os) (CP : os.Started) (H : Type) (enc : TypeId × Value → H) :
    ReturnsInHanded {} Tryz.checked os 6 .any (fun w args => (Rows.cholErrorsSpec.pre enc Tryz.prog Tryz.f6 [] false w args ∧ laidMetH Tryz.prog vY w) ∧ sizedMet enc Tryz.prog Tryz.f6 (OpenSpec.ofChange Rows.cholErrorsSpec) false w args) (Rows.cholErrorsSpec.post enc Tryz.prog Tryz.f6 false true false false) := by
  refine returnsInHanded_of_change_and (C := Tryz.checked) (X := fun w _ => laidMetH Tryz.prog vY w) (fun _ _ _ yy h => h.of_heap yy) Tryz.own CP (by kernel_rfl) Tryz.func6
    (ChangeSpec.witness_shaped (enc := enc) (C := Tryz.checked) (os := os) (X := fun w _ => laidMetH Tryz.prog vY w) false (World.doorLaid Tryz.prog 400 os) #[.slice none 0 0, .int .i64 0, .int .i64 0] 8 rfl (World.shaped_of_RefB (by kernel_rfl) (by kernel_rfl)) (by kernel_rfl) (by kernel_rfl) (by kernel_rfl) (S9 os _)) ?_
  intro W base args ds gs T3 Nj Na _ _ M9 _
  exact NR (E := E) (F := rC) (T := 4) QS Tryz.laidOut (by kernel_rfl) (by kernel_rfl) rfl (by kernel_rfl) (by kernel_rfl) rfl
    (fun ds h => by match ds, h with | [_, _, _], _ => rfl) K7 Nj Na (S8 M9)

theorem K1 : (Rows.cholErrorsRow.inPlace == Tryz.prog.inPlace 6) = true := by kernel_rfl
theorem K2 : (Rows.cholErrorsRow.unfollowed == Tryz.prog.unfollowed 6) = true := by kernel_rfl
theorem K3 : (Rows.cholErrorsRow.recurses == Tryz.prog.recurses 6) = true := by kernel_rfl
theorem K4 : (Rows.cholErrorsRow.named == Tryz.prog.varsNamed 6) = true := by kernel_rfl
theorem K0 : joinedFacts Tryz.prog 6 Tryz.f6 Rows.cholErrorsSpec Rows.cholErrorsRow = true := by
  unfold joinedFacts
  rw [K1, K2, K3, K4]
  kernel_rfl
theorem En : Tryz.prog.funcNamed Rows.cholErrorsRow.func = some 6 := by kernel_rfl
theorem K6 : Rows.CholErrorsSaid :=
  OpenClaim.holds_of_wide 6 Tryz.f6 rfl rfl rfl rfl rfl rfl rfl ⟨rfl, rfl, rfl, rfl, rfl⟩ rfl rfl rfl rfl rfl En Tryz.func6 K0
    (of_decide_eq_true (by kernel_rfl)) (by unfold Func.isWrapper; first | (rw [al (by decide +kernel)]; kernel_rfl) | (rw [ah (by decide +kernel)]; exact ⟨rfl, rfl⟩))
    (fun os CP H enc _ => K5 os CP H enc)
theorem cholErrors_holds : Rows.CholErrorsCardSaid :=
  Claim7.holds_tied_plain_at .later [] [.data] true (true, "0636b7c1f3e5d2813aad18fcaf1333dcdd944d6c8213ce75241e944d4ced4571") false
    K6 (fun _ h => by cases h) (by kernel_rfl) (fun _ h => by cases h) cholErrors_row_tie rfl ⟨rfl, rfl⟩ (by kernel_rfl) rfl
    (fun f fn Ng Nh => by
      obtain rfl : f = 6 := (dp (En.symm.trans Ng)).symm
      obtain rfl : fn = Tryz.f6 := (dp (Tryz.func6.symm.trans Nh)).symm
      exact ⟨by kernel_rfl, fun j t qS => by
        rw [Tryz.params6] at qS
        have Fv : t ∈ [22, 3, 3] := by simpa using Array.mem_of_getElem? qS
        have Nb : ([22, 3, 3].all fun u => !Tryz.prog.wantsStandIn u) = true := by kernel_rfl
        exact (show Tryz.prog.wantsStandIn t = false by simpa using ew.1 Nb t Fv)⟩)
    (by kernel_rfl)
end Go.Proofs.YtkhcdgkdpjahpaaGreatDoor
