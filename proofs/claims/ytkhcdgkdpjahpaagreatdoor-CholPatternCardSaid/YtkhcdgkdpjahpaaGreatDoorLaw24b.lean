/-
  The law CholPattern: it returns true, whatever its arguments are, and they read as they did; on condition that the library's table math/bits.deBruijn32tab reads as listed.
-/
import Derived.Test.YtkhcdgkdpjahpaaGreatDoorBd0afa66e
import Derived.Test.YtkhcdgkdpjahpaaGreatDoorRows
import Derived.ProofKit
import Derived.SevenTiedAt
import Derived.Test.YtkhcdgkdpjahpaaGreatDoorTie
import Derived.Test.YtkhcdgkdpjahpaaGreatDoorCards

namespace Go.Proofs.YtkhcdgkdpjahpaaGreatDoor
open Go.lP

theorem Tryz.own : ownKnob Tryz.prog.godebug = none := by kernel_rfl
theorem Tryz.laidOut : laidOutB Tryz.prog = true := by kernel_rfl
theorem ahu : ∀ a, sQ Bt.ps a → ∃ b, Bt.m8 a = some b ∧ jz Bt.rs (iB Bt.ps b) = [⟨.bool, true⟩] :=
  fun a h => ⟨(true, ()), acu a.1 a.2.1 a.2.2.1 (eu h.1.1 (by decide)), rfl⟩

set_option maxRecDepth 100000 in
theorem ahs (os : Os) (SR : os.Started) (H : Type) (enc : TypeId × Value → H) :
    ReturnsInHanded {} Tryz.checked os 4 .any (fun w args => (Rows.cholPatternSpec.pre enc Tryz.prog Tryz.f4 [] false w args ∧ laidMetH Tryz.prog HJ w) ∧ sizedMet enc Tryz.prog Tryz.f4 (OpenSpec.ofChange Rows.cholPatternSpec) false w args) (Rows.cholPatternSpec.post enc Tryz.prog Tryz.f4 false true false false) := by
  refine returnsInHanded_of_change_and (C := Tryz.checked) (X := fun w _ => laidMetH Tryz.prog HJ w) (fun _ _ _ ax h => h.of_heap ax) Tryz.own SR (by kernel_rfl) Tryz.func4
    (ChangeSpec.witness_shaped (enc := enc) (C := Tryz.checked) (os := os) (X := fun w _ => laidMetH Tryz.prog HJ w) false (World.doorLaid Tryz.prog 400 os) #[.slice none 0 0, .int .i64 0, .int .i64 0] 8 rfl (World.shaped_of_RefB (by kernel_rfl) (by kernel_rfl)) (by kernel_rfl) (by kernel_rfl) (by kernel_rfl) (aup os _)) ?_
  intro W base args ds gs qr Qg lv _ _ eQ _
  exact anx (E := E) (F := Bt) (T := 4) ari Tryz.laidOut (by kernel_rfl) (by kernel_rfl) rfl (by kernel_rfl) (by kernel_rfl) rfl
    (fun ds h => by match ds, h with | [_, _, _], _ => rfl) ahu Qg lv (auo eQ)

theorem aho : (Rows.cholPatternRow.inPlace == Tryz.prog.inPlace 4) = true := by kernel_rfl
theorem ahp : (Rows.cholPatternRow.unfollowed == Tryz.prog.unfollowed 4) = true := by kernel_rfl
theorem ahq : (Rows.cholPatternRow.recurses == Tryz.prog.recurses 4) = true := by kernel_rfl
theorem ahr : (Rows.cholPatternRow.named == Tryz.prog.varsNamed 4) = true := by kernel_rfl
theorem ahn : joinedFacts Tryz.prog 4 Tryz.f4 Rows.cholPatternSpec Rows.cholPatternRow = true := by
  unfold joinedFacts
  rw [aho, ahp, ahq, ahr]
  kernel_rfl
theorem U0 : Tryz.prog.funcNamed Rows.cholPatternRow.func = some 4 := by kernel_rfl
theorem aht : Rows.CholPatternSaid :=
  OpenClaim.holds_of_wide 4 Tryz.f4 rfl rfl rfl rfl rfl rfl rfl ⟨rfl, rfl, rfl, rfl, rfl⟩ rfl rfl rfl rfl rfl U0 Tryz.func4 ahn
    (of_decide_eq_true (by kernel_rfl)) (by unfold Func.isWrapper; first | (rw [if_pos (by decide +kernel)]; kernel_rfl) | (rw [if_neg (by decide +kernel)]; exact ⟨rfl, rfl⟩))
    (fun os SR H enc _ => ahs os SR H enc)
theorem cholPattern_holds : Rows.CholPatternCardSaid :=
  Claim7.holds_tied_plain_at .later [] [.data] true (true, "0636b7c1f3e5d2813aad18fcaf1333dcdd944d6c8213ce75241e944d4ced4571") false
    aht (fun _ h => by cases h) (by kernel_rfl) (fun _ h => by cases h) cholPattern_row_tie rfl ⟨rfl, rfl⟩ (by kernel_rfl) rfl
    (fun f fn aF FR => by
      obtain rfl : f = 4 := (ff (U0.symm.trans aF)).symm
      obtain rfl : fn = Tryz.f4 := (ff (Tryz.func4.symm.trans FR)).symm
      exact ⟨by kernel_rfl, fun j t af => by
        rw [Tryz.params4] at af
        have ao : t ∈ [22, 3, 3] := by simpa using Array.mem_of_getElem? af
        have fQ : ([22, 3, 3].all fun u => !Tryz.prog.wantsStandIn u) = true := by kernel_rfl
        exact (show Tryz.prog.wantsStandIn t = false by simpa using fk.1 fQ t ao)⟩)
    (by kernel_rfl)
end Go.Proofs.YtkhcdgkdpjahpaaGreatDoor
