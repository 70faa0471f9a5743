/-
  The law CholLeft: it returns true, whatever its arguments are, and they read as they did; on condition that the library's table math/bits.deBruijn32tab reads as listed.
-/
import Derived.Test.YtkhcdgkdpjahpaaGreatDoorBe5057848
import Derived.Test.YtkhcdgkdpjahpaaGreatDoorRows
import Derived.ProofKit
import Derived.SevenTiedAt
import Derived.Test.YtkhcdgkdpjahpaaGreatDoorTie
import Derived.Test.YtkhcdgkdpjahpaaGreatDoorCards

namespace Go.Proofs.YtkhcdgkdpjahpaaGreatDoor
open Go.mz

theorem Tryz.own : ownKnob Tryz.prog.godebug = none := by kernel_rfl
theorem Tryz.laidOut : laidOutB Tryz.prog = true := by kernel_rfl
theorem alp : ∀ a, tY CL.ps a → ∃ b, CL.nW a = some b ∧ j1 CL.rs (iY CL.ps b) = [⟨.bool, true⟩] :=
  fun a h => ⟨(true, ()), afX a.1 a.2.1 a.2.2.1 a.2.2.2.1 a.2.2.2.2.1 (d8 h.1.1 (by decide)), rfl⟩

set_option maxRecDepth 100000 in
theorem aln (os : Os) (Vo : os.Started) (H : Type) (enc : TypeId × Value → H) :
    ReturnsInHanded {} Tryz.checked os 3 .any (fun w args => (Rows.cholLeftSpec.pre enc Tryz.prog Tryz.f3 [] false w args ∧ laidMetH Tryz.prog Jw w) ∧ sizedMet enc Tryz.prog Tryz.f3 (OpenSpec.ofChange Rows.cholLeftSpec) false w args) (Rows.cholLeftSpec.post enc Tryz.prog Tryz.f3 false true false false) := by
  refine returnsInHanded_of_change_and (C := Tryz.checked) (X := fun w _ => laidMetH Tryz.prog Jw w) (fun _ _ _ ay h => h.of_heap ay) Tryz.own Vo (by kernel_rfl) Tryz.func3
    (ChangeSpec.witness_shaped (enc := enc) (C := Tryz.checked) (os := os) (X := fun w _ => laidMetH Tryz.prog Jw w) false (World.doorLaid Tryz.prog 400 os) #[.slice none 0 0, .int .i64 0, .int .i64 0, .bool false, .slice none 0 0] 8 rfl (World.shaped_of_RefB (by kernel_rfl) (by kernel_rfl)) (by kernel_rfl) (by kernel_rfl) (by kernel_rfl) (ay7 os _)) ?_
  intro W base args ds gs rr SL k5 _ _ e4 _
  exact arD (E := E) (F := CL) (T := 4) avm Tryz.laidOut (by kernel_rfl) (by kernel_rfl) rfl (by kernel_rfl) (by kernel_rfl) rfl
    (fun ds h => by match ds, h with | [_, _, _, _, _], _ => rfl) alp SL k5 (ay6 e4)

theorem ali : (Rows.cholLeftRow.inPlace == Tryz.prog.inPlace 3) = true := by kernel_rfl
theorem alj : (Rows.cholLeftRow.unfollowed == Tryz.prog.unfollowed 3) = true := by kernel_rfl
theorem alk : (Rows.cholLeftRow.recurses == Tryz.prog.recurses 3) = true := by kernel_rfl
theorem alm : (Rows.cholLeftRow.named == Tryz.prog.varsNamed 3) = true := by kernel_rfl
theorem alh : joinedFacts Tryz.prog 3 Tryz.f3 Rows.cholLeftSpec Rows.cholLeftRow = true := by
  unfold joinedFacts
  rw [ali, alj, alk, alm]
  kernel_rfl
theorem XP : Tryz.prog.funcNamed Rows.cholLeftRow.func = some 3 := by kernel_rfl
theorem alo : Rows.CholLeftSaid :=
  OpenClaim.holds_of_wide 3 Tryz.f3 rfl rfl rfl rfl rfl rfl rfl ⟨rfl, rfl, rfl, rfl, rfl⟩ rfl rfl rfl rfl rfl XP Tryz.func3 alh
    (of_decide_eq_true (by kernel_rfl)) (by unfold Func.isWrapper; first | (rw [if_pos (by decide +kernel)]; kernel_rfl) | (rw [if_neg (by decide +kernel)]; exact ⟨rfl, rfl⟩))
    (fun os Vo H enc _ => aln os Vo H enc)
theorem cholLeft_holds : Rows.CholLeftCardSaid :=
  Claim7.holds_tied_plain_at .later [] [.data] true (true, "0636b7c1f3e5d2813aad18fcaf1333dcdd944d6c8213ce75241e944d4ced4571") false
    alo (fun _ h => by cases h) (by kernel_rfl) (fun _ h => by cases h) cholLeft_row_tie rfl ⟨rfl, rfl⟩ (by kernel_rfl) rfl
    (fun f fn aH Hi => by
      obtain rfl : f = 3 := (fH (XP.symm.trans aH)).symm
      obtain rfl : fn = Tryz.f3 := (fH (Tryz.func3.symm.trans Hi)).symm
      exact ⟨by kernel_rfl, fun j t ah => by
        rw [Tryz.params3] at ah
        have ak : t ∈ [22, 3, 3, 4, 23] := by simpa using Array.mem_of_getElem? ah
        have gn : ([22, 3, 3, 4, 23].all fun u => !Tryz.prog.wantsStandIn u) = true := by kernel_rfl
        exact (show Tryz.prog.wantsStandIn t = false by simpa using fM.1 gn t ak)⟩)
    (by kernel_rfl)
end Go.Proofs.YtkhcdgkdpjahpaaGreatDoor
