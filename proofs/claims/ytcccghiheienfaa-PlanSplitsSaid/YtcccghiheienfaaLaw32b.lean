/-
  The law PlanSplits: it returns true, whatever its arguments are, and they read as they did; no conditions.
-/
import Derived.Test.YtcccghiheienfaaBee1f31e1
import Derived.Test.YtcccghiheienfaaRows
import Derived.ProofKit
namespace Go.Proofs.Ytcccghiheienfaa
open Go.Fw

theorem Try.own : ownKnob Try.prog.godebug = none := by kernel_rfl
theorem Try.laidOut : laidOutB Try.prog = true := by kernel_rfl
theorem planSplits_true : ∀ a, RngP F4.ps a → ∃ b, F4.sem a = some b ∧ mkR F4.rs (outR F4.ps b) = [⟨.bool, true⟩] :=
  fun a h => ⟨(true, ()), PlanSplits_true a.1 a.2.1 a.2.2.1 (Nat.le_trans h.1.1 (by decide)), rfl⟩

set_option maxRecDepth 100000 in
theorem planSplits_lifted (os : Os) (started : os.Started) (H : Type) (enc : TypeId × Value → H) :
    ReturnsInHanded {} Try.checked os 4 .any (Rows.planSplitsSpec.pre6 enc Try.prog Try.f4 Rows.planSplitsRow.domain false) (Rows.planSplitsSpec.post enc Try.prog Try.f4 false true false false) := by
  refine returnsInHanded_of_change (C := Try.checked) Try.own started (by kernel_rfl) Try.func4
    (ChangeSpec.witness6 (enc := enc) (C := Try.checked) false ⟨#[], #[.slice none 0 0, .int .i64 0, .int .i64 0], []⟩ 8 (by kernel_rfl) (by kernel_rfl) (by kernel_rfl) (by kernel_rfl)) ?_
  intro W base args ds gs before hval hW _ _
  exact law_post (E := E) (F := F4) (T := 4) ok4 Try.laidOut (by kernel_rfl) (by kernel_rfl) rfl (by kernel_rfl) (by kernel_rfl) rfl
    (fun ds h => by match ds, h with | [_, _, _], _ => rfl) planSplits_true hval hW

theorem planSplits_holds : Rows.PlanSplitsSaid :=
  OpenClaim.holds_of_wide 4 Try.f4 rfl rfl rfl rfl rfl rfl rfl ⟨rfl, rfl, rfl, rfl, rfl⟩ rfl rfl rfl rfl rfl (by kernel_rfl) Try.func4 (by kernel_rfl)
    (of_decide_eq_true (by kernel_rfl)) (by unfold Func.isWrapper; first | (rw [if_pos (by decide +kernel)]; kernel_rfl) | (rw [if_neg (by decide +kernel)]; exact ⟨rfl, rfl⟩))
    (fun os started H enc _ => planSplits_lifted os started H enc)
end Go.Proofs.Ytcccghiheienfaa
