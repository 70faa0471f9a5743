/-
  Graphs and elimination, in plain mathematics: walks whose inner vertices are eliminated ones.
-/
import Derived.Test.YtlalecmgnaoiiaaTh1
namespace Go.Fw

/-- A walk from i to j whose inner vertices are in P. -/
inductive WalkP (A : Nat → Nat → Prop) (P : Nat → Prop) : Nat → Nat → Prop
  | one {i j : Nat} : A i j → WalkP A P i j
  | step {i m j : Nat} : A i m → P m → WalkP A P m j → WalkP A P i j

section
variable {A : Nat → Nat → Prop} {P : Nat → Prop}

theorem WalkP.trans {i m j : Nat} (h : WalkP A P i m) (hm : P m) (h2 : WalkP A P m j) : WalkP A P i j := by
  induction h with
  | one h => exact .step h hm h2
  | step h hk _ ih => exact .step h hk (ih hm h2)

theorem WalkP.symm (hA : ∀ a b, A a b → A b a) {i j : Nat} (h : WalkP A P i j) : WalkP A P j i := by
  induction h with
  | one h => exact .one (hA _ _ h)
  | step h hk _ ih => exact ih.trans hk (.one (hA _ _ h))

theorem WalkP.mono {P' : Nat → Prop} (hP : ∀ x, P x → P' x) {i j : Nat} (h : WalkP A P i j) : WalkP A P' i j := by
  induction h with
  | one h => exact .one h
  | step h h2 _ ih => exact .step h (hP _ h2) ih

/-- One more vertex may be used. -/
theorem WalkP.insert_iff {v i j : Nat} : WalkP A (fun x => P x ∨ x = v) i j ↔ WalkP A P i j ∨ (WalkP A P i v ∧ WalkP A P v j) := by
  constructor
  · intro h
    induction h with
    | one h => exact .inl (.one h)
    | @step i m j h hm _ ih =>
      rcases hm with hm | rfl
      · rcases ih with ih | ⟨ih1, ih2⟩
        · exact .inl (.step h hm ih)
        · exact .inr ⟨.step h hm ih1, ih2⟩
      · rcases ih with ih | ⟨_, ih2⟩
        · exact .inr ⟨.one h, ih⟩
        · exact .inr ⟨.one h, ih2⟩
  · rintro (h | ⟨h1, h2⟩)
    · exact h.mono fun x hx => .inl hx
    · exact (h1.mono fun x hx => .inl hx).trans (.inr rfl) (h2.mono fun x hx => .inl hx)

theorem WalkP.none {i j : Nat} : WalkP A (fun _ => False) i j ↔ A i j := by
  constructor
  · intro h
    cases h with
    | one h => exact h
    | step _ h _ => exact h.elim
  · exact .one

theorem walk_iff {k i j : Nat} : Walk A k i j ↔ WalkP A (fun x => x < k) i j := by
  constructor
  · intro h
    induction h with
    | one h => exact .one h
    | step h h2 _ ih => exact .step h h2 ih
  · intro h
    induction h with
    | one h => exact .one h
    | step h h2 _ ih => exact .step h h2 ih
end
end Go.Fw
