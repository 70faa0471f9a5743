/-
  The law MindegForest: it returns true, whatever its arguments are, and they read as they did; no conditions.
-/
import Derived.Test.YtcjbeengjcmpaaaBe0cf3dc0
import Derived.Test.YtcjbeengjcmpaaaRows
import Derived.ProofKit
namespace Go.Proofs.Ytcjbeengjcmpaaa
open Go.Fw

theorem Try.own : ownKnob Try.prog.godebug = none := by kernel_rfl
theorem Try.laidOut : laidOutB Try.prog = true := by kernel_rfl
theorem mindegForest_true : ∀ a, RngP F6.ps a → ∃ b, F6.sem a = some b ∧ mkR F6.rs (outR F6.ps b) = [⟨.bool, true⟩] :=
  fun a _ => ⟨(true, ()), MindegForest_true a.1 a.2.1, rfl⟩

set_option maxRecDepth 100000 in
theorem mindegForest_lifted (os : Os) (started : os.Started) (H : Type) (enc : TypeId × Value → H) :
    ReturnsInHanded {} Try.checked os 6 .any (Rows.mindegForestSpec.pre6 enc Try.prog Try.f6 Rows.mindegForestRow.domain false) (Rows.mindegForestSpec.post enc Try.prog Try.f6 false true false false) := by
  refine returnsInHanded_of_change (C := Try.checked) Try.own started (by kernel_rfl) Try.func6
    (ChangeSpec.witness6 (enc := enc) (C := Try.checked) false ⟨#[], #[.int .i64 0, .slice none 0 0], []⟩ 8 (by kernel_rfl) (by kernel_rfl) (by kernel_rfl) (by kernel_rfl)) ?_
  intro W base args ds gs before hval hW _ _
  exact law_post (E := E) (F := F6) (T := 4) ok6 Try.laidOut (by kernel_rfl) (by kernel_rfl) rfl (by kernel_rfl) (by kernel_rfl) rfl
    (fun ds h => by match ds, h with | [_, _], _ => rfl) mindegForest_true hval hW

theorem mindegForest_holds : Rows.MindegForestSaid :=
  OpenClaim.holds_of_wide 6 Try.f6 rfl rfl rfl rfl rfl rfl rfl ⟨rfl, rfl, rfl, rfl, rfl⟩ rfl rfl rfl rfl rfl (by kernel_rfl) Try.func6 (by kernel_rfl)
    (of_decide_eq_true (by kernel_rfl)) (by unfold Func.isWrapper; first | (rw [if_pos (by decide +kernel)]; kernel_rfl) | (rw [if_neg (by decide +kernel)]; exact ⟨rfl, rfl⟩))
    (fun os started H enc _ => mindegForest_lifted os started H enc)
end Go.Proofs.Ytcjbeengjcmpaaa
