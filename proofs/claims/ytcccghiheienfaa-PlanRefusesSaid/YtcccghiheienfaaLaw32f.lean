/-
  The law PlanRefuses: it returns true, whatever its arguments are, and they read as they did; no conditions.
-/
import Derived.Test.YtcccghiheienfaaBbb2df786
import Derived.Test.YtcccghiheienfaaRows
import Derived.ProofKit
namespace Go.Proofs.Ytcccghiheienfaa
open Go.Fw

theorem Try.own : ownKnob Try.prog.godebug = none := by kernel_rfl
theorem Try.laidOut : laidOutB Try.prog = true := by kernel_rfl
theorem planRefuses_true : ∀ a, RngP F5.ps a → ∃ b, F5.sem a = some b ∧ mkR F5.rs (outR F5.ps b) = [⟨.bool, true⟩] :=
  fun a h => ⟨(true, ()), PlanRefuses_true a.1 a.2.1 a.2.2.1 a.2.2.2.1 a.2.2.2.2.1 a.2.2.2.2.2.1 (Nat.le_trans h.1.1 (by decide)) (rng_i64 h.2.2.1) (rng_i64 h.2.2.2.2.1), rfl⟩

set_option maxRecDepth 100000 in
theorem planRefuses_lifted (os : Os) (started : os.Started) (H : Type) (enc : TypeId × Value → H) :
    ReturnsInHanded {} Try.checked os 5 .any (Rows.planRefusesSpec.pre6 enc Try.prog Try.f5 Rows.planRefusesRow.domain false) (Rows.planRefusesSpec.post enc Try.prog Try.f5 false true false false) := by
  refine returnsInHanded_of_change (C := Try.checked) Try.own started (by kernel_rfl) Try.func5
    (ChangeSpec.witness6 (enc := enc) (C := Try.checked) false ⟨#[], #[.slice none 0 0, .int .i64 0, .int .i64 0, .int .i64 0, .int .i64 0, .int .i64 0], []⟩ 8 (by kernel_rfl) (by kernel_rfl) (by kernel_rfl) (by kernel_rfl)) ?_
  intro W base args ds gs before hval hW _ _
  exact law_post (E := E) (F := F5) (T := 4) ok5 Try.laidOut (by kernel_rfl) (by kernel_rfl) rfl (by kernel_rfl) (by kernel_rfl) rfl
    (fun ds h => by match ds, h with | [_, _, _, _, _, _], _ => rfl) planRefuses_true hval hW

theorem planRefuses_holds : Rows.PlanRefusesSaid :=
  OpenClaim.holds_of_wide 5 Try.f5 rfl rfl rfl rfl rfl rfl rfl ⟨rfl, rfl, rfl, rfl, rfl⟩ rfl rfl rfl rfl rfl (by kernel_rfl) Try.func5 (by kernel_rfl)
    (of_decide_eq_true (by kernel_rfl)) (by unfold Func.isWrapper; first | (rw [if_pos (by decide +kernel)]; kernel_rfl) | (rw [if_neg (by decide +kernel)]; exact ⟨rfl, rfl⟩))
    (fun os started H enc _ => planRefuses_lifted os started H enc)
end Go.Proofs.Ytcccghiheienfaa
