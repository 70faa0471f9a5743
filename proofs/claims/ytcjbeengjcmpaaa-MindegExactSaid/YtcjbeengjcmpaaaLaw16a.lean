/-
  The law MindegExact: it returns true, whatever its arguments are, and they read as they did; no conditions.
-/
import Derived.Test.YtcjbeengjcmpaaaB8ec0fce1
import Derived.Test.YtcjbeengjcmpaaaRows
import Derived.ProofKit
namespace Go.Proofs.Ytcjbeengjcmpaaa
open Go.Fw

theorem Try.own : ownKnob Try.prog.godebug = none := by kernel_rfl
theorem Try.laidOut : laidOutB Try.prog = true := by kernel_rfl
theorem mindegExact_true : ∀ a, RngP F3.ps a → ∃ b, F3.sem a = some b ∧ mkR F3.rs (outR F3.ps b) = [⟨.bool, true⟩] :=
  fun a _ => ⟨(true, ()), MindegExact_true a.1 a.2.1 a.2.2.1, rfl⟩

set_option maxRecDepth 100000 in
theorem mindegExact_lifted (os : Os) (started : os.Started) (H : Type) (enc : TypeId × Value → H) :
    ReturnsInHanded {} Try.checked os 3 .any (Rows.mindegExactSpec.pre6 enc Try.prog Try.f3 Rows.mindegExactRow.domain false) (Rows.mindegExactSpec.post enc Try.prog Try.f3 false true false false) := by
  refine returnsInHanded_of_change (C := Try.checked) Try.own started (by kernel_rfl) Try.func3
    (ChangeSpec.witness6 (enc := enc) (C := Try.checked) false ⟨#[], #[.int .i64 0, .slice none 0 0, .slice none 0 0], []⟩ 8 (by kernel_rfl) (by kernel_rfl) (by kernel_rfl) (by kernel_rfl)) ?_
  intro W base args ds gs before hval hW _ _
  exact law_post (E := E) (F := F3) (T := 4) ok3 Try.laidOut (by kernel_rfl) (by kernel_rfl) rfl (by kernel_rfl) (by kernel_rfl) rfl
    (fun ds h => by match ds, h with | [_, _, _], _ => rfl) mindegExact_true hval hW

theorem mindegExact_holds : Rows.MindegExactSaid :=
  OpenClaim.holds_of_wide 3 Try.f3 rfl rfl rfl rfl rfl rfl rfl ⟨rfl, rfl, rfl, rfl, rfl⟩ rfl rfl rfl rfl rfl (by kernel_rfl) Try.func3 (by kernel_rfl)
    (of_decide_eq_true (by kernel_rfl)) (by unfold Func.isWrapper; first | (rw [if_pos (by decide +kernel)]; kernel_rfl) | (rw [if_neg (by decide +kernel)]; exact ⟨rfl, rfl⟩))
    (fun os started H enc _ => mindegExact_lifted os started H enc)
end Go.Proofs.Ytcjbeengjcmpaaa
