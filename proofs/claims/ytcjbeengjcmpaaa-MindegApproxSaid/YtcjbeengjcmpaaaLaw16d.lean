/-
  The law MindegApprox: it returns true, whatever its arguments are, and they read as they did; no conditions.
-/
import Derived.Test.YtcjbeengjcmpaaaBf33f0fe3
import Derived.Test.YtcjbeengjcmpaaaRows
import Derived.ProofKit
namespace Go.Proofs.Ytcjbeengjcmpaaa
open Go.Fw

theorem Try.own : ownKnob Try.prog.godebug = none := by kernel_rfl
theorem Try.laidOut : laidOutB Try.prog = true := by kernel_rfl
theorem mindegApprox_true : ∀ a, RngP F8.ps a → ∃ b, F8.sem a = some b ∧ mkR F8.rs (outR F8.ps b) = [⟨.bool, true⟩] :=
  fun a _ => ⟨(true, ()), MindegApprox_true a.1 a.2.1, rfl⟩

set_option maxRecDepth 100000 in
theorem mindegApprox_lifted (os : Os) (started : os.Started) (H : Type) (enc : TypeId × Value → H) :
    ReturnsInHanded {} Try.checked os 8 .any (Rows.mindegApproxSpec.pre6 enc Try.prog Try.f8 Rows.mindegApproxRow.domain false) (Rows.mindegApproxSpec.post enc Try.prog Try.f8 false true false false) := by
  refine returnsInHanded_of_change (C := Try.checked) Try.own started (by kernel_rfl) Try.func8
    (ChangeSpec.witness6 (enc := enc) (C := Try.checked) false ⟨#[], #[.int .i64 0, .slice none 0 0], []⟩ 8 (by kernel_rfl) (by kernel_rfl) (by kernel_rfl) (by kernel_rfl)) ?_
  intro W base args ds gs before hval hW _ _
  exact law_post (E := E) (F := F8) (T := 4) ok8 Try.laidOut (by kernel_rfl) (by kernel_rfl) rfl (by kernel_rfl) (by kernel_rfl) rfl
    (fun ds h => by match ds, h with | [_, _], _ => rfl) mindegApprox_true hval hW

theorem mindegApprox_holds : Rows.MindegApproxSaid :=
  OpenClaim.holds_of_wide 8 Try.f8 rfl rfl rfl rfl rfl rfl rfl ⟨rfl, rfl, rfl, rfl, rfl⟩ rfl rfl rfl rfl rfl (by kernel_rfl) Try.func8 (by kernel_rfl)
    (of_decide_eq_true (by kernel_rfl)) (by unfold Func.isWrapper; first | (rw [if_pos (by decide +kernel)]; kernel_rfl) | (rw [if_neg (by decide +kernel)]; exact ⟨rfl, rfl⟩))
    (fun os started H enc _ => mindegApprox_lifted os started H enc)
end Go.Proofs.Ytcjbeengjcmpaaa
