/-
  The law OutcoreNil: it returns true, whatever its arguments are, and they read as they did; on condition that the library's table math/bits.deBruijn32tab reads as listed.
-/
import Derived.Test.YtifkhhbcbagaiaaGreatDoorBe6ff5411
import Derived.Test.YtifkhhbcbagaiaaGreatDoorRows
import Derived.ProofKit
import Derived.SevenTiedAt
import Derived.Test.YtifkhhbcbagaiaaGreatDoorTie
import Derived.Test.YtifkhhbcbagaiaaGreatDoorCards

namespace Go.Proofs.YtifkhhbcbagaiaaGreatDoor
open Go.gG

theorem Tryz.own : ownKnob Tryz.prog.godebug = none := by kernel_rfl
theorem Tryz.laidOut : laidOutB Tryz.prog = true := by kernel_rfl
theorem Cj : ∀ a, iz lr.ps a → ∃ b, lr.sem a = some b ∧ eO lr.rs (eI lr.ps b) = [⟨.bool, true⟩] :=
  fun a _ => ⟨(true, ()), x1 a.1 a.2.1, rfl⟩

set_option maxRecDepth 100000 in
theorem Ch (os : Os) (s8 : os.Started) (H : Type) (enc : TypeId × Value → H) :
    ReturnsInHanded {} Tryz.checked os 3 .any (fun w args => (Rows.outcoreNilSpec.pre enc Tryz.prog Tryz.f3 [] false w args ∧ laidMetH Tryz.prog pa w) ∧ sizedMet enc Tryz.prog Tryz.f3 (OpenSpec.ofChange Rows.outcoreNilSpec) false w args) (Rows.outcoreNilSpec.post enc Tryz.prog Tryz.f3 false true false false) := by
  refine returnsInHanded_of_change_and (C := Tryz.checked) (X := fun w _ => laidMetH Tryz.prog pa w) (fun _ _ _ pV h => h.of_heap pV) Tryz.own s8 (by kernel_rfl) Tryz.func3
    (ChangeSpec.witness_shaped (enc := enc) (C := Tryz.checked) (os := os) (X := fun w _ => laidMetH Tryz.prog pa w) false (World.doorLaid Tryz.prog 400 os) #[.int .i64 0, .int .i64 0] 8 rfl (World.shaped_of_RefB (by kernel_rfl) (by kernel_rfl)) (by kernel_rfl) (by kernel_rfl) (by kernel_rfl) (EN os _)) ?_
  intro W base args ds gs Fi z6 zU _ _ zT _
  exact Ay (E := E) (F := lr) (T := 4) B5 Tryz.laidOut (by kernel_rfl) (by kernel_rfl) rfl (by kernel_rfl) (by kernel_rfl) rfl
    (fun ds h => by match ds, h with | [_, _], _ => rfl) Cj z6 zU (EM zT)

theorem Cd : (Rows.outcoreNilRow.inPlace == Tryz.prog.inPlace 3) = true := by kernel_rfl
theorem Ce : (Rows.outcoreNilRow.unfollowed == Tryz.prog.unfollowed 3) = true := by kernel_rfl
theorem Cf : (Rows.outcoreNilRow.recurses == Tryz.prog.recurses 3) = true := by kernel_rfl
theorem Cg : (Rows.outcoreNilRow.named == Tryz.prog.varsNamed 3) = true := by kernel_rfl
theorem Cc : joinedFacts Tryz.prog 3 Tryz.f3 Rows.outcoreNilSpec Rows.outcoreNilRow = true := by
  unfold joinedFacts
  rw [Cd, Ce, Cf, Cg]
  kernel_rfl
theorem wR : Tryz.prog.funcNamed Rows.outcoreNilRow.func = some 3 := by kernel_rfl
theorem Ci : Rows.OutcoreNilSaid :=
  OpenClaim.holds_of_wide 3 Tryz.f3 rfl rfl rfl rfl rfl rfl rfl ⟨rfl, rfl, rfl, rfl, rfl⟩ rfl rfl rfl rfl rfl wR Tryz.func3 Cc
    (of_decide_eq_true (by kernel_rfl)) (by unfold Func.isWrapper; first | (rw [bc (by decide +kernel)]; kernel_rfl) | (rw [a8 (by decide +kernel)]; exact ⟨rfl, rfl⟩))
    (fun os s8 H enc _ => Ch os s8 H enc)
theorem zO {P : Program} (h : P.funcs.toList.all (fun fn => !fn.goes) = true) (f : FuncId) : P.goes f = false := by
  have pU : ∀ fn ∈ P.funcs, fn.goes = false := fun fn r9 => by
    have := cX.1 h fn (Array.mem_toList_iff.2 r9)
    simpa using this
  unfold Program.goes
  rw [Bool.or_eq_false_iff]
  constructor
  · rw [ls]
    intro g _
    cases vz : P.funcs[g]? with
    | none => simp
    | some fn => simp [pU fn (Array.mem_of_getElem? vz)]
  · rw [Bool.and_eq_false_iff]
    right
    rw [Array.any_eq_false]
    intro i jZ
    simp [pU _ (Array.getElem_mem jZ)]
theorem zP {P : Program} {c : OpenClaim} (h : P.funcs.toList.all (fun fn => !fn.goes) = true) (hs : c.start = .entering) : false = c.goesBy P := by
  unfold OpenClaim.goesBy Program.goesAt Program.goesFrom
  rw [hs]
  cases P.funcNamed c.func with
  | none => rfl
  | some f => simp [zO h f]
theorem Tryz.Bj : (Tryz.prog.funcs.toList.all fun fn => !fn.goes) = true := by kernel_rfl
theorem outcoreNil_holds : Rows.OutcoreNilCardSaid :=
  Claim7.holds_tied_plain_at .later [] [.data] true (true, "3764af033647e0448b2878ae0ef014cd0b073ce98d2a3b5262d46f394fbc2bf2") false
    Ci (fun _ h => by cases h) (by kernel_rfl) (fun _ h => by cases h) outcoreNil_row_tie rfl ⟨rfl, rfl⟩ (by kernel_rfl) rfl
    (fun f fn r9 zZ => by
      obtain rfl : f = 3 := (c6 (wR.symm.trans r9)).symm
      obtain rfl : fn = Tryz.f3 := (c6 (Tryz.func3.symm.trans zZ)).symm
      exact ⟨by kernel_rfl, fun j t l8 => by
        rw [Tryz.params3] at l8
        have vA : t ∈ [3, 3] := by simpa using Array.mem_of_getElem? l8
        have zV : ([3, 3].all fun u => !Tryz.prog.wantsStandIn u) = true := by kernel_rfl
        exact (show Tryz.prog.wantsStandIn t = false by simpa using cX.1 zV t vA)⟩)
    (zP Tryz.Bj rfl)
end Go.Proofs.YtifkhhbcbagaiaaGreatDoor
