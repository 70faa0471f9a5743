/-
  The law TopSigns: it returns true, whatever its arguments are, and they read as they did; on condition that the library's table math/bits.deBruijn32tab reads as listed.
-/
import Derived.Test.YthlmgdleldkpnaaGreatDoorB7b1e21a7
import Derived.Test.YthlmgdleldkpnaaGreatDoorRows
import Derived.ProofKit
import Derived.SevenTiedAt
import Derived.Test.YthlmgdleldkpnaaGreatDoorTie
import Derived.Test.YthlmgdleldkpnaaGreatDoorCards

namespace Go.Proofs.YthlmgdleldkpnaaGreatDoor
open Go.j5

theorem Tryz.own : ownKnob Tryz.prog.godebug = none := by kernel_rfl
theorem Tryz.laidOut : laidOutB Tryz.prog = true := by kernel_rfl
theorem ahW : ∀ a, qK xg.ps a → ∃ b, xg.sem a = some b ∧ jG xg.rs (iR xg.ps b) = [⟨.bool, true⟩] :=
  fun a h => ⟨(true, ()), VG a.1 a.2.1 a.2.2.1 (eE h.1.1 (by decide)), rfl⟩

set_option maxRecDepth 100000 in
theorem ahU (os : Os) (Mp : os.Started) (H : Type) (enc : TypeId × Value → H) :
    ReturnsInHanded {} Tryz.checked os 3 .any (fun w args => (Rows.topSignsSpec.pre enc Tryz.prog Tryz.f3 [] false w args ∧ laidMetH Tryz.prog CD w) ∧ sizedMet enc Tryz.prog Tryz.f3 (OpenSpec.ofChange Rows.topSignsSpec) false w args) (Rows.topSignsSpec.post enc Tryz.prog Tryz.f3 false true false false) := by
  refine returnsInHanded_of_change_and (C := Tryz.checked) (X := fun w _ => laidMetH Tryz.prog CD w) (fun _ _ _ FR h => h.of_heap FR) Tryz.own Mp (by kernel_rfl) Tryz.func3
    (ChangeSpec.witness_shaped (enc := enc) (C := Tryz.checked) (os := os) (X := fun w _ => laidMetH Tryz.prog CD w) false (World.doorLaid Tryz.prog 400 os) #[.slice none 0 0, .int .i64 0, .slice none 0 0] 8 rfl (World.shaped_of_RefB (by kernel_rfl) (by kernel_rfl)) (by kernel_rfl) (by kernel_rfl) (by kernel_rfl) (ahI os _)) ?_
  intro W base args ds gs aiW Zr Zk _ _ Zj _
  exact Z5 (E := E) (F := xg) (T := 4) ac1 Tryz.laidOut (by kernel_rfl) (by kernel_rfl) rfl (by kernel_rfl) (by kernel_rfl) rfl
    (fun ds h => by match ds, h with | [_, _, _], _ => rfl) ahW Zr Zk (ahH Zj)

theorem ahQ : (Rows.topSignsRow.inPlace == Tryz.prog.inPlace 3) = true := by kernel_rfl
theorem ahR : (Rows.topSignsRow.unfollowed == Tryz.prog.unfollowed 3) = true := by kernel_rfl
theorem ahS : (Rows.topSignsRow.recurses == Tryz.prog.recurses 3) = true := by kernel_rfl
theorem ahT : (Rows.topSignsRow.named == Tryz.prog.varsNamed 3) = true := by kernel_rfl
theorem ahP : joinedFacts Tryz.prog 3 Tryz.f3 Rows.topSignsSpec Rows.topSignsRow = true := by
  unfold joinedFacts
  rw [ahQ, ahR, ahS, ahT]
  kernel_rfl
theorem Uj : Tryz.prog.funcNamed Rows.topSignsRow.func = some 3 := by kernel_rfl
theorem ahV : Rows.TopSignsSaid :=
  OpenClaim.holds_of_wide 3 Tryz.f3 rfl rfl rfl rfl rfl rfl rfl ⟨rfl, rfl, rfl, rfl, rfl⟩ rfl rfl rfl rfl rfl Uj Tryz.func3 ahP
    (of_decide_eq_true (by kernel_rfl)) (by unfold Func.isWrapper; first | (rw [ay (by decide +kernel)]; kernel_rfl) | (rw [aw (by decide +kernel)]; exact ⟨rfl, rfl⟩))
    (fun os Mp H enc _ => ahU os Mp H enc)
theorem Zb {P : Program} (h : P.funcs.toList.all (fun fn => !fn.goes) = true) (f : FuncId) : P.goes f = false := by
  have FQ : ∀ fn ∈ P.funcs, fn.goes = false := fun fn Kb => by
    have := hk.1 h fn (Array.mem_toList_iff.2 Kb)
    simpa using this
  unfold Program.goes
  rw [Bool.or_eq_false_iff]
  constructor
  · rw [u6]
    intro g _
    cases P4 : P.funcs[g]? with
    | none => simp
    | some fn => simp [FQ fn (Array.mem_of_getElem? P4)]
  · rw [Bool.and_eq_false_iff]
    right
    rw [Array.any_eq_false]
    intro i hi
    simp [FQ _ (Array.getElem_mem hi)]
theorem Zc {P : Program} {c : OpenClaim} (h : P.funcs.toList.all (fun fn => !fn.goes) = true) (hs : c.start = .entering) : false = c.goesBy P := by
  unfold OpenClaim.goesBy Program.goesAt Program.goesFrom
  rw [hs]
  cases P.funcNamed c.func with
  | none => rfl
  | some f => simp [Zb h f]
theorem Tryz.abd : (Tryz.prog.funcs.toList.all fun fn => !fn.goes) = true := by kernel_rfl
theorem topSigns_holds : Rows.TopSignsCardSaid :=
  Claim7.holds_tied_plain_at .later [] [.data] true (true, "ee436ed3d4cf9e230d263b2ed78a07af69934740fd0af84d57ec8c11a8ad72e8") false
    ahV (fun _ h => by cases h) (by kernel_rfl) (fun _ h => by cases h) topSigns_row_tie rfl ⟨rfl, rfl⟩ (by kernel_rfl) rfl
    (fun f fn Kb Zp => by
      obtain rfl : f = 3 := (gn (Uj.symm.trans Kb)).symm
      obtain rfl : fn = Tryz.f3 := (gn (Tryz.func3.symm.trans Zp)).symm
      exact ⟨by kernel_rfl, fun j t p7 => by
        rw [Tryz.params3] at p7
        have P5 : t ∈ [22, 3, 23] := by simpa using Array.mem_of_getElem? p7
        have Zl : ([22, 3, 23].all fun u => !Tryz.prog.wantsStandIn u) = true := by kernel_rfl
        exact (show Tryz.prog.wantsStandIn t = false by simpa using hk.1 Zl t P5)⟩)
    (Zc Tryz.abd rfl)
end Go.Proofs.YthlmgdleldkpnaaGreatDoor
