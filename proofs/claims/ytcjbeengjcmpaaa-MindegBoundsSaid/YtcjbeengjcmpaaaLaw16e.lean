/-
  The law MindegBounds: it returns true, whatever its arguments are, and they read as they did; no conditions.
-/
import Derived.Test.YtcjbeengjcmpaaaB8c20708d
import Derived.Test.YtcjbeengjcmpaaaRows
import Derived.ProofKit
namespace Go.Proofs.Ytcjbeengjcmpaaa
open Go.Fw

theorem Try.own : ownKnob Try.prog.godebug = none := by kernel_rfl
theorem Try.laidOut : laidOutB Try.prog = true := by kernel_rfl
theorem mindegBounds_true : ∀ a, RngP F9.ps a → ∃ b, F9.sem a = some b ∧ mkR F9.rs (outR F9.ps b) = [⟨.bool, true⟩] :=
  fun a _ => ⟨(true, ()), MindegBounds_true a.1 a.2.1, rfl⟩

set_option maxRecDepth 100000 in
theorem mindegBounds_lifted (os : Os) (started : os.Started) (H : Type) (enc : TypeId × Value → H) :
    ReturnsInHanded {} Try.checked os 9 .any (Rows.mindegBoundsSpec.pre6 enc Try.prog Try.f9 Rows.mindegBoundsRow.domain false) (Rows.mindegBoundsSpec.post enc Try.prog Try.f9 false true false false) := by
  refine returnsInHanded_of_change (C := Try.checked) Try.own started (by kernel_rfl) Try.func9
    (ChangeSpec.witness6 (enc := enc) (C := Try.checked) false ⟨#[], #[.int .i64 0, .slice none 0 0], []⟩ 8 (by kernel_rfl) (by kernel_rfl) (by kernel_rfl) (by kernel_rfl)) ?_
  intro W base args ds gs before hval hW _ _
  exact law_post (E := E) (F := F9) (T := 4) ok9 Try.laidOut (by kernel_rfl) (by kernel_rfl) rfl (by kernel_rfl) (by kernel_rfl) rfl
    (fun ds h => by match ds, h with | [_, _], _ => rfl) mindegBounds_true hval hW

theorem mindegBounds_holds : Rows.MindegBoundsSaid :=
  OpenClaim.holds_of_wide 9 Try.f9 rfl rfl rfl rfl rfl rfl rfl ⟨rfl, rfl, rfl, rfl, rfl⟩ rfl rfl rfl rfl rfl (by kernel_rfl) Try.func9 (by kernel_rfl)
    (of_decide_eq_true (by kernel_rfl)) (by unfold Func.isWrapper; first | (rw [if_pos (by decide +kernel)]; kernel_rfl) | (rw [if_neg (by decide +kernel)]; exact ⟨rfl, rfl⟩))
    (fun os started H enc _ => mindegBounds_lifted os started H enc)
end Go.Proofs.Ytcjbeengjcmpaaa
