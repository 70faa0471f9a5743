/-
  The law CholBadFronts: it returns true, whatever its arguments are, and they read as they did; on condition that the library's table math/bits.deBruijn32tab reads as listed.
-/
import Derived.Test.YtkhcdgkdpjahpaaGreatDoorB560bacee
import Derived.Test.YtkhcdgkdpjahpaaGreatDoorRows
import Derived.ProofKit
import Derived.SevenTiedAt
import Derived.Test.YtkhcdgkdpjahpaaGreatDoorTie
import Derived.Test.YtkhcdgkdpjahpaaGreatDoorCards

namespace Go.Proofs.YtkhcdgkdpjahpaaGreatDoor
open Go.h2

theorem Tryz.own : ownKnob Tryz.prog.godebug = none := by kernel_rfl
theorem Tryz.laidOut : laidOutB Tryz.prog = true := by kernel_rfl
theorem Ra : ∀ a, oy uG.ps a → ∃ b, uG.wv a = some b ∧ hM uG.rs (g2 uG.ps b) = [⟨.bool, true⟩] :=
  fun a h => ⟨(true, ()), Pe a.1 a.2.1 a.2.2.1 a.2.2.2.1 a.2.2.2.2.1 (dh h.1.1 (by decide)), rfl⟩

set_option maxRecDepth 100000 in
theorem Q8 (os : Os) (HB : os.Started) (H : Type) (enc : TypeId × Value → H) :
    ReturnsInHanded {} Tryz.checked os 9 .any (fun w args => (Rows.cholBadFrontsSpec.pre enc Tryz.prog Tryz.f9 [] false w args ∧ laidMetH Tryz.prog zy w) ∧ sizedMet enc Tryz.prog Tryz.f9 (OpenSpec.ofChange Rows.cholBadFrontsSpec) false w args) (Rows.cholBadFrontsSpec.post enc Tryz.prog Tryz.f9 false true false false) := by
  refine returnsInHanded_of_change_and (C := Tryz.checked) (X := fun w _ => laidMetH Tryz.prog zy w) (fun _ _ _ Cs h => h.of_heap Cs) Tryz.own HB (by kernel_rfl) Tryz.func9
    (ChangeSpec.witness_shaped (enc := enc) (C := Tryz.checked) (os := os) (X := fun w _ => laidMetH Tryz.prog zy w) false (World.doorLaid Tryz.prog 400 os) #[.slice none 0 0, .int .i64 0, .int .i64 0, .int .i64 0, .int .i64 0] 8 rfl (World.shaped_of_RefB (by kernel_rfl) (by kernel_rfl)) (by kernel_rfl) (by kernel_rfl) (by kernel_rfl) (ZM os _)) ?_
  intro W base args ds gs aaN Tm Te _ _ Td _
  exact TR (E := E) (F := uG) (T := 4) Xl Tryz.laidOut (by kernel_rfl) (by kernel_rfl) rfl (by kernel_rfl) (by kernel_rfl) rfl
    (fun ds h => by match ds, h with | [_, _, _, _, _], _ => rfl) Ra Tm Te (ZL Td)

theorem Q4 : (Rows.cholBadFrontsRow.inPlace == Tryz.prog.inPlace 9) = true := by kernel_rfl
theorem Q5 : (Rows.cholBadFrontsRow.unfollowed == Tryz.prog.unfollowed 9) = true := by kernel_rfl
theorem Q6 : (Rows.cholBadFrontsRow.recurses == Tryz.prog.recurses 9) = true := by kernel_rfl
theorem Q7 : (Rows.cholBadFrontsRow.named == Tryz.prog.varsNamed 9) = true := by kernel_rfl
theorem Q3 : joinedFacts Tryz.prog 9 Tryz.f9 Rows.cholBadFrontsSpec Rows.cholBadFrontsRow = true := by
  unfold joinedFacts
  rw [Q4, Q5, Q6, Q7]
  kernel_rfl
theorem Jo : Tryz.prog.funcNamed Rows.cholBadFrontsRow.func = some 9 := by kernel_rfl
theorem Q9 : Rows.CholBadFrontsSaid :=
  OpenClaim.holds_of_wide 9 Tryz.f9 rfl rfl rfl rfl rfl rfl rfl ⟨rfl, rfl, rfl, rfl, rfl⟩ rfl rfl rfl rfl rfl Jo Tryz.func9 Q3
    (of_decide_eq_true (by kernel_rfl)) (by unfold Func.isWrapper; first | (rw [ai (by decide +kernel)]; kernel_rfl) | (rw [ah (by decide +kernel)]; exact ⟨rfl, rfl⟩))
    (fun os HB H enc _ => Q8 os HB H enc)
theorem cholBadFronts_holds : Rows.CholBadFrontsCardSaid :=
  Claim7.holds_tied_plain_at .later [] [.data] true (true, "0636b7c1f3e5d2813aad18fcaf1333dcdd944d6c8213ce75241e944d4ced4571") false
    Q9 (fun _ h => by cases h) (by kernel_rfl) (fun _ h => by cases h) cholBadFronts_row_tie rfl ⟨rfl, rfl⟩ (by kernel_rfl) rfl
    (fun f fn Tj Tk => by
      obtain rfl : f = 9 := (ee (Jo.symm.trans Tj)).symm
      obtain rfl : fn = Tryz.f9 := (ee (Tryz.func9.symm.trans Tk)).symm
      exact ⟨by kernel_rfl, fun j t tF => by
        rw [Tryz.params9] at tF
        have KH : t ∈ [22, 3, 3, 3, 3] := by simpa using Array.mem_of_getElem? tF
        have Tf : ([22, 3, 3, 3, 3].all fun u => !Tryz.prog.wantsStandIn u) = true := by kernel_rfl
        exact (show Tryz.prog.wantsStandIn t = false by simpa using fd.1 Tf t KH)⟩)
    (by kernel_rfl)
end Go.Proofs.YtkhcdgkdpjahpaaGreatDoor
