/-
  The law CholProducts: it returns true, whatever its arguments are, and they read as they did; on condition that the library's table math/bits.deBruijn32tab reads as listed.
-/
import Derived.Test.YtkhcdgkdpjahpaaGreatDoorB58582a66
import Derived.Test.YtkhcdgkdpjahpaaGreatDoorRows
import Derived.ProofKit
import Derived.SevenTiedAt
import Derived.Test.YtkhcdgkdpjahpaaGreatDoorTie
import Derived.Test.YtkhcdgkdpjahpaaGreatDoorCards

namespace Go.Proofs.YtkhcdgkdpjahpaaGreatDoor
open Go.i9

theorem Tryz.own : ownKnob Tryz.prog.godebug = none := by kernel_rfl
theorem Tryz.laidOut : laidOutB Tryz.prog = true := by kernel_rfl
theorem Sp : ∀ a, nN tc.ps a → ∃ b, tc.u2 a = some b ∧ hm tc.rs (gL tc.ps b) = [⟨.bool, true⟩] :=
  fun a h => ⟨(true, ()), MQ a.1 a.2.1 a.2.2.1 a.2.2.2.1 (da h.1.1 (by decide)) (da h.2.2.2.1.1 (by decide)), rfl⟩

set_option maxRecDepth 100000 in
theorem Sm (os : Os) (Fj : os.Started) (H : Type) (enc : TypeId × Value → H) :
    ReturnsInHanded {} Tryz.checked os 7 .any (fun w args => (Rows.cholProductsSpec.pre enc Tryz.prog Tryz.f7 [] false w args ∧ laidMetH Tryz.prog x2 w) ∧ sizedMet enc Tryz.prog Tryz.f7 (OpenSpec.ofChange Rows.cholProductsSpec) false w args) (Rows.cholProductsSpec.post enc Tryz.prog Tryz.f7 false true false false) := by
  refine returnsInHanded_of_change_and (C := Tryz.checked) (X := fun w _ => laidMetH Tryz.prog x2 w) (fun _ _ _ AQ h => h.of_heap AQ) Tryz.own Fj (by kernel_rfl) Tryz.func7
    (ChangeSpec.witness_shaped (enc := enc) (C := Tryz.checked) (os := os) (X := fun w _ => laidMetH Tryz.prog x2 w) false (World.doorLaid Tryz.prog 400 os) #[.slice none 0 0, .int .i64 0, .int .i64 0, .slice none 0 0] 8 rfl (World.shaped_of_RefB (by kernel_rfl) (by kernel_rfl)) (by kernel_rfl) (by kernel_rfl) (by kernel_rfl) (aao os _)) ?_
  intro W base args ds gs abe Uk Uc _ _ Ub _
  exact UR (E := E) (F := tc) (T := 4) X3 Tryz.laidOut (by kernel_rfl) (by kernel_rfl) rfl (by kernel_rfl) (by kernel_rfl) rfl
    (fun ds h => by match ds, h with | [_, _, _, _], _ => rfl) Sp Uk Uc (aan Ub)

theorem Si : (Rows.cholProductsRow.inPlace == Tryz.prog.inPlace 7) = true := by kernel_rfl
theorem Sj : (Rows.cholProductsRow.unfollowed == Tryz.prog.unfollowed 7) = true := by kernel_rfl
theorem Sk : (Rows.cholProductsRow.recurses == Tryz.prog.recurses 7) = true := by kernel_rfl
theorem Sl : (Rows.cholProductsRow.named == Tryz.prog.varsNamed 7) = true := by kernel_rfl
theorem Sh : joinedFacts Tryz.prog 7 Tryz.f7 Rows.cholProductsSpec Rows.cholProductsRow = true := by
  unfold joinedFacts
  rw [Si, Sj, Sk, Sl]
  kernel_rfl
theorem G5 : Tryz.prog.funcNamed Rows.cholProductsRow.func = some 7 := by kernel_rfl
theorem Sn : Rows.CholProductsSaid :=
  OpenClaim.holds_of_wide 7 Tryz.f7 rfl rfl rfl rfl rfl rfl rfl ⟨rfl, rfl, rfl, rfl, rfl⟩ rfl rfl rfl rfl rfl G5 Tryz.func7 Sh
    (of_decide_eq_true (by kernel_rfl)) (by unfold Func.isWrapper; first | (rw [if_pos (by decide +kernel)]; kernel_rfl) | (rw [if_neg (by decide +kernel)]; exact ⟨rfl, rfl⟩))
    (fun os Fj H enc _ => Sm os Fj H enc)
theorem cholProducts_holds : Rows.CholProductsCardSaid :=
  Claim7.holds_tied_plain_at .later [] [.data] true (true, "0636b7c1f3e5d2813aad18fcaf1333dcdd944d6c8213ce75241e944d4ced4571") false
    Sn (fun _ h => by cases h) (by kernel_rfl) (fun _ h => by cases h) cholProducts_row_tie rfl ⟨rfl, rfl⟩ (by kernel_rfl) rfl
    (fun f fn Uh Ui => by
      obtain rfl : f = 7 := (ec (G5.symm.trans Uh)).symm
      obtain rfl : fn = Tryz.f7 := (ec (Tryz.func7.symm.trans Ui)).symm
      exact ⟨by kernel_rfl, fun j t sr => by
        rw [Tryz.params7] at sr
        have Im : t ∈ [22, 3, 3, 22] := by simpa using Array.mem_of_getElem? sr
        have Ud : ([22, 3, 3, 22].all fun u => !Tryz.prog.wantsStandIn u) = true := by kernel_rfl
        exact (show Tryz.prog.wantsStandIn t = false by simpa using eI.1 Ud t Im)⟩)
    (by kernel_rfl)
end Go.Proofs.YtkhcdgkdpjahpaaGreatDoor
