/-
  The law CholRefuses: it returns true, whatever its arguments are, and they read as they did; on condition that the library's table math/bits.deBruijn32tab reads as listed.
-/
import Derived.Test.YtkhcdgkdpjahpaaGreatDoorB7fcfebde
import Derived.Test.YtkhcdgkdpjahpaaGreatDoorRows
import Derived.ProofKit
import Derived.SevenTiedAt
import Derived.Test.YtkhcdgkdpjahpaaGreatDoorTie
import Derived.Test.YtkhcdgkdpjahpaaGreatDoorCards

namespace Go.Proofs.YtkhcdgkdpjahpaaGreatDoor
open Go.ia

theorem Tryz.own : ownKnob Tryz.prog.godebug = none := by kernel_rfl
theorem Tryz.laidOut : laidOutB Tryz.prog = true := by kernel_rfl
theorem PT : ∀ a, nY tq.ps a → ∃ b, tq.vo a = some b ∧ hl tq.rs (gI tq.ps b) = [⟨.bool, true⟩] :=
  fun a h => ⟨(true, ()), NY a.1 a.2.1 a.2.2.1 a.2.2.2.1 a.2.2.2.2.1 (db h.1.1 (by decide)), rfl⟩

set_option maxRecDepth 100000 in
theorem PR (os : Os) (Gv : os.Started) (H : Type) (enc : TypeId × Value → H) :
    ReturnsInHanded {} Tryz.checked os 10 .any (fun w args => (Rows.cholRefusesSpec.pre enc Tryz.prog Tryz.f10 [] false w args ∧ laidMetH Tryz.prog yu w) ∧ sizedMet enc Tryz.prog Tryz.f10 (OpenSpec.ofChange Rows.cholRefusesSpec) false w args) (Rows.cholRefusesSpec.post enc Tryz.prog Tryz.f10 false true false false) := by
  refine returnsInHanded_of_change_and (C := Tryz.checked) (X := fun w _ => laidMetH Tryz.prog yu w) (fun _ _ _ BE h => h.of_heap BE) Tryz.own Gv (by kernel_rfl) Tryz.func10
    (ChangeSpec.witness_shaped (enc := enc) (C := Tryz.checked) (os := os) (X := fun w _ => laidMetH Tryz.prog yu w) false (World.doorLaid Tryz.prog 400 os) #[.slice none 0 0, .int .i64 0, .int .i64 0, .int .i64 0, .int .i64 0] 8 rfl (World.shaped_of_RefB (by kernel_rfl) (by kernel_rfl)) (by kernel_rfl) (by kernel_rfl) (by kernel_rfl) (Yx os _)) ?_
  intro W base args ds gs Zz RQ RI _ _ RH _
  exact Sp (E := E) (F := tq) (T := 4) TA Tryz.laidOut (by kernel_rfl) (by kernel_rfl) rfl (by kernel_rfl) (by kernel_rfl) rfl
    (fun ds h => by match ds, h with | [_, _, _, _, _], _ => rfl) PT RQ RI (Yw RH)

theorem PN : (Rows.cholRefusesRow.inPlace == Tryz.prog.inPlace 10) = true := by kernel_rfl
theorem PO : (Rows.cholRefusesRow.unfollowed == Tryz.prog.unfollowed 10) = true := by kernel_rfl
theorem PP : (Rows.cholRefusesRow.recurses == Tryz.prog.recurses 10) = true := by kernel_rfl
theorem PQ : (Rows.cholRefusesRow.named == Tryz.prog.varsNamed 10) = true := by kernel_rfl
theorem PM : joinedFacts Tryz.prog 10 Tryz.f10 Rows.cholRefusesSpec Rows.cholRefusesRow = true := by
  unfold joinedFacts
  rw [PN, PO, PP, PQ]
  kernel_rfl
theorem Ih : Tryz.prog.funcNamed Rows.cholRefusesRow.func = some 10 := by kernel_rfl
theorem PS : Rows.CholRefusesSaid :=
  OpenClaim.holds_of_wide 10 Tryz.f10 rfl rfl rfl rfl rfl rfl rfl ⟨rfl, rfl, rfl, rfl, rfl⟩ rfl rfl rfl rfl rfl Ih Tryz.func10 PM
    (of_decide_eq_true (by kernel_rfl)) (by unfold Func.isWrapper; first | (rw [aj (by decide +kernel)]; kernel_rfl) | (rw [ag (by decide +kernel)]; exact ⟨rfl, rfl⟩))
    (fun os Gv H enc _ => PR os Gv H enc)
theorem cholRefuses_holds : Rows.CholRefusesCardSaid :=
  Claim7.holds_tied_plain_at .later [] [.data] true (true, "0636b7c1f3e5d2813aad18fcaf1333dcdd944d6c8213ce75241e944d4ced4571") false
    PS (fun _ h => by cases h) (by kernel_rfl) (fun _ h => by cases h) cholRefuses_row_tie rfl ⟨rfl, rfl⟩ (by kernel_rfl) rfl
    (fun f fn RN RO => by
      obtain rfl : f = 10 := (ee (Ih.symm.trans RN)).symm
      obtain rfl : fn = Tryz.f10 := (ee (Tryz.func10.symm.trans RO)).symm
      exact ⟨by kernel_rfl, fun j t sw => by
        rw [Tryz.params10] at sw
        have JE : t ∈ [22, 3, 3, 3, 3] := by simpa using Array.mem_of_getElem? sw
        have RJ : ([22, 3, 3, 3, 3].all fun u => !Tryz.prog.wantsStandIn u) = true := by kernel_rfl
        exact (show Tryz.prog.wantsStandIn t = false by simpa using eJ.1 RJ t JE)⟩)
    (by kernel_rfl)
end Go.Proofs.YtkhcdgkdpjahpaaGreatDoor
