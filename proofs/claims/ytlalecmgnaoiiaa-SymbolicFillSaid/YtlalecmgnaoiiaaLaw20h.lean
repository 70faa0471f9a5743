/-
  The law SymbolicFill: it returns true, whatever its arguments are, and they read as they did; no conditions.
-/
import Derived.Test.YtlalecmgnaoiiaaB2b20ffec
import Derived.Test.YtlalecmgnaoiiaaRows
import Derived.ProofKit
namespace Go.Proofs.Ytlalecmgnaoiiaa
open Go.Fw

theorem Try.own : ownKnob Try.prog.godebug = none := by kernel_rfl
theorem Try.laidOut : laidOutB Try.prog = true := by kernel_rfl
theorem symbolicFill_true : ∀ a, RngP F10.ps a → ∃ b, F10.sem a = some b ∧ mkR F10.rs (outR F10.ps b) = [⟨.bool, true⟩] :=
  fun a _ => ⟨(true, ()), SymbolicFill_true a.1 a.2.1 a.2.2.1, rfl⟩

set_option maxRecDepth 100000 in
theorem symbolicFill_lifted (os : Os) (started : os.Started) (H : Type) (enc : TypeId × Value → H) :
    ReturnsInHanded {} Try.checked os 10 .any (Rows.symbolicFillSpec.pre6 enc Try.prog Try.f10 Rows.symbolicFillRow.domain false) (Rows.symbolicFillSpec.post enc Try.prog Try.f10 false true false false) := by
  refine returnsInHanded_of_change (C := Try.checked) Try.own started (by kernel_rfl) Try.func10
    (ChangeSpec.witness6 (enc := enc) (C := Try.checked) false ⟨#[], #[.int .i64 0, .slice none 0 0, .slice none 0 0], []⟩ 8 (by kernel_rfl) (by kernel_rfl) (by kernel_rfl) (by kernel_rfl)) ?_
  intro W base args ds gs before hval hW _ _
  exact law_post (E := E) (F := F10) (T := 4) ok10 Try.laidOut (by kernel_rfl) (by kernel_rfl) rfl (by kernel_rfl) (by kernel_rfl) rfl
    (fun ds h => by match ds, h with | [_, _, _], _ => rfl) symbolicFill_true hval hW

theorem symbolicFill_holds : Rows.SymbolicFillSaid :=
  OpenClaim.holds_of_wide 10 Try.f10 rfl rfl rfl rfl rfl rfl rfl ⟨rfl, rfl, rfl, rfl, rfl⟩ rfl rfl rfl rfl rfl (by kernel_rfl) Try.func10 (by kernel_rfl)
    (of_decide_eq_true (by kernel_rfl)) (by unfold Func.isWrapper; first | (rw [if_pos (by decide +kernel)]; kernel_rfl) | (rw [if_neg (by decide +kernel)]; exact ⟨rfl, rfl⟩))
    (fun os started H enc _ => symbolicFill_lifted os started H enc)
end Go.Proofs.Ytlalecmgnaoiiaa
