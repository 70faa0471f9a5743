/-
  The law MindegAny: it returns true, whatever its arguments are, and they read as they did; no conditions.
-/
import Derived.Test.YtcjbeengjcmpaaaBd348686a
import Derived.Test.YtcjbeengjcmpaaaRows
import Derived.ProofKit
namespace Go.Proofs.Ytcjbeengjcmpaaa
open Go.Fw

theorem Try.own : ownKnob Try.prog.godebug = none := by kernel_rfl
theorem Try.laidOut : laidOutB Try.prog = true := by kernel_rfl
theorem mindegAny_true : ∀ a, RngP F7.ps a → ∃ b, F7.sem a = some b ∧ mkR F7.rs (outR F7.ps b) = [⟨.bool, true⟩] :=
  fun a _ => ⟨(true, ()), MindegAny_true a.1.1 a.2.1, rfl⟩

set_option maxRecDepth 100000 in
theorem mindegAny_lifted (os : Os) (started : os.Started) (H : Type) (enc : TypeId × Value → H) :
    ReturnsInHanded {} Try.checked os 7 .any (Rows.mindegAnySpec.pre6 enc Try.prog Try.f7 Rows.mindegAnyRow.domain false) (Rows.mindegAnySpec.post enc Try.prog Try.f7 false true false false) := by
  refine returnsInHanded_of_change (C := Try.checked) Try.own started (by kernel_rfl) Try.func7
    (ChangeSpec.witness6 (enc := enc) (C := Try.checked) false ⟨#[], #[.agg #[.slice none 0 0], .slice none 0 0], []⟩ 8 (by kernel_rfl) (by kernel_rfl) (by kernel_rfl) (by kernel_rfl)) ?_
  intro W base args ds gs before hval hW _ _
  exact law_post (E := E) (F := F7) (T := 4) ok7 Try.laidOut (by kernel_rfl) (by kernel_rfl) rfl (by kernel_rfl) (by kernel_rfl) rfl
    (fun ds h => by match ds, h with | [_, _], _ => rfl) mindegAny_true hval hW

theorem mindegAny_holds : Rows.MindegAnySaid :=
  OpenClaim.holds_of_wide 7 Try.f7 rfl rfl rfl rfl rfl rfl rfl ⟨rfl, rfl, rfl, rfl, rfl⟩ rfl rfl rfl rfl rfl (by kernel_rfl) Try.func7 (by kernel_rfl)
    (of_decide_eq_true (by kernel_rfl)) (by unfold Func.isWrapper; first | (rw [if_pos (by decide +kernel)]; kernel_rfl) | (rw [if_neg (by decide +kernel)]; exact ⟨rfl, rfl⟩))
    (fun os started H enc _ => mindegAny_lifted os started H enc)
end Go.Proofs.Ytcjbeengjcmpaaa
