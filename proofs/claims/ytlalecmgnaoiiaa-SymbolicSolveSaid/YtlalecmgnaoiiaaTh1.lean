/-
  Graphs and elimination, in plain mathematics: walks whose inner vertices are small, elimination forests (Liu), row subtrees, the fill path theorem's step.
-/
set_option linter.unusedSimpArgs false
set_option linter.unusedVariables false
namespace Go.Fw

/-- A walk from i to j whose inner vertices are less than k. -/
inductive Walk (A : Nat → Nat → Prop) (k : Nat) : Nat → Nat → Prop
  | one {i j : Nat} : A i j → Walk A k i j
  | step {i m j : Nat} : A i m → m < k → Walk A k m j → Walk A k i j

section
variable {A : Nat → Nat → Prop} {k : Nat}

theorem Walk.trans {i m j : Nat} (h : Walk A k i m) (hm : m < k) (h2 : Walk A k m j) : Walk A k i j := by
  induction h with
  | one h => exact .step h hm h2
  | step h hk _ ih => exact .step h hk (ih hm h2)

theorem Walk.symm (hA : ∀ a b, A a b → A b a) {i j : Nat} (h : Walk A k i j) : Walk A k j i := by
  induction h with
  | one h => exact .one (hA _ _ h)
  | step h hk _ ih => exact ih.trans hk (.one (hA _ _ h))

theorem Walk.mono {k' : Nat} (hk : k ≤ k') {i j : Nat} (h : Walk A k i j) : Walk A k' i j := by
  induction h with
  | one h => exact .one h
  | step h h2 _ ih => exact .step h (by omega) ih

/-- One more vertex may be used. -/
theorem Walk.succ_iff {i j : Nat} : Walk A (k + 1) i j ↔ Walk A k i j ∨ (Walk A k i k ∧ Walk A k k j) := by
  constructor
  · intro h
    induction h with
    | one h => exact .inl (.one h)
    | @step i m j h hm _ ih =>
      rcases Nat.lt_or_ge m k with hmk | hmk
      · rcases ih with ih | ⟨ih1, ih2⟩
        · exact .inl (.step h hmk ih)
        · exact .inr ⟨.step h hmk ih1, ih2⟩
      · obtain rfl : m = k := by omega
        rcases ih with ih | ⟨_, ih2⟩
        · exact .inr ⟨.one h, ih⟩
        · exact .inr ⟨.one h, ih2⟩
  · rintro (h | ⟨h1, h2⟩)
    · exact h.mono (by omega)
    · exact (h1.mono (by omega)).trans (by omega) (h2.mono (by omega))

/-- Along a walk from u to p, below p but for its end, there is the first vertex beyond u. -/
theorem Walk.first {u p : Nat} (hu : u < p) (h : Walk A p u p) : ∃ w, u < w ∧ w ≤ p ∧ Walk A u u w ∧ (w = p ∨ Walk A p w p) := by
  have key : ∀ {a b : Nat}, Walk A p a b → b = p → (a = u ∨ (a < u ∧ Walk A u u a)) → ∃ w, u < w ∧ w ≤ p ∧ Walk A u u w ∧ (w = p ∨ Walk A p w p) := by
    intro a b h
    induction h with
    | @one a b h0 =>
      intro hb ha
      subst hb
      refine ⟨b, hu, Nat.le_refl _, ?_, .inl rfl⟩
      rcases ha with rfl | ⟨ha, hw⟩
      · exact .one h0
      · exact hw.trans ha (.one h0)
    | @step a m b h0 hm hw ih =>
      intro hb ha
      have h1 : Walk A u u m := by
        rcases ha with rfl | ⟨ha, hw⟩
        · exact .one h0
        · exact hw.trans ha (.one h0)
      rcases Nat.lt_trichotomy m u with hmu | hmu | hmu
      · exact ih hb (.inr ⟨hmu, h1⟩)
      · exact ih hb (.inl hmu)
      · subst hb
        exact ⟨m, hmu, by omega, h1, .inr hw⟩
  exact key h rfl (.inl rfl)

/-- p is the parent of u: the least vertex beyond u that is joined to u among the vertices up to p. -/
def IsPar (A : Nat → Nat → Prop) (u p : Nat) : Prop := u < p ∧ Walk A p u p ∧ ∀ q, u < q → q < p → ¬ Walk A q u q

theorem IsPar.uniq {u p q : Nat} (h : IsPar A u p) (h' : IsPar A u q) : p = q := by
  rcases Nat.lt_trichotomy p q with hl | he | hl
  · exact absurd h.2.1 (h'.2.2 p h.1 hl)
  · exact he
  · exact absurd h'.2.1 (h.2.2 q h'.1 hl)

theorem IsPar.fill {u p : Nat} (h : IsPar A u p) : Walk A u u p := by
  obtain ⟨w, h1, h2, h3, h4⟩ := Walk.first h.1 h.2.1
  rcases Nat.lt_or_ge w p with hl | hl
  · exact absurd (h3.mono (by omega)) (h.2.2 w h1 hl)
  · obtain rfl : w = p := by omega
    exact h3

/-- The parent is the least vertex of the column. -/
theorem IsPar.least {u p q : Nat} (h : IsPar A u p) (hq : u < q) (hw : Walk A u u q) : p ≤ q := by
  rcases Nat.lt_or_ge q p with hl | hl
  · exact absurd (hw.mono (by omega)) (h.2.2 q hq hl)
  · exact hl

theorem par_exists {u q : Nat} (hq : u < q) (hw : Walk A q u q) : ∃ p, p ≤ q ∧ IsPar A u p := by
  have : ∀ n, ∀ q, u < q → q ≤ n → Walk A q u q → ∃ p, p ≤ q ∧ IsPar A u p := by
    intro n
    induction n with
    | zero => intro q h1 h2; omega
    | succ n ih =>
      intro q h1 h2 h3
      by_cases h : ∃ r, u < r ∧ r < q ∧ Walk A r u r
      · obtain ⟨r, hr1, hr2, hr3⟩ := h
        obtain ⟨p, hp1, hp2⟩ := ih r hr1 (by omega) hr3
        exact ⟨p, by omega, hp2⟩
      · exact ⟨q, Nat.le_refl _, h1, h3, fun r hr1 hr2 hr3 => h ⟨r, hr1, hr2, hr3⟩⟩
  exact this q q hq (Nat.le_refl _) hw

/-- Ancestors. -/
inductive Anc (A : Nat → Nat → Prop) : Nat → Nat → Prop
  | refl (u : Nat) : Anc A u u
  | up {u p v : Nat} : IsPar A u p → Anc A p v → Anc A u v

theorem Anc.le {u v : Nat} (h : Anc A u v) : u ≤ v := by
  induction h with
  | refl => exact Nat.le_refl _
  | up hp _ ih => have := hp.1; omega

theorem Anc.trans {u v w : Nat} (h : Anc A u v) (h2 : Anc A v w) : Anc A u w := by
  induction h with
  | refl => exact h2
  | up hp _ ih => exact .up hp (ih h2)

/-- Ancestors are joined to what is below them. -/
theorem Anc.walk {u v : Nat} (h : Anc A u v) : u = v ∨ Walk A v u v := by
  induction h with
  | refl => exact .inl rfl
  | @up u p v hp hv ih =>
    right
    have hpv := hv.le
    rcases ih with rfl | ih
    · exact hp.2.1
    · rcases Nat.lt_or_ge p v with hl | hl
      · exact (hp.2.1.mono hpv).trans hl ih
      · obtain rfl : p = v := by omega
        exact hp.2.1

/-- What is joined to j among the vertices up to j is below j. -/
theorem anc_of_walk (hA : ∀ a b, A a b → A b a) {u j : Nat} (hu : u < j) (h : Walk A j u j) : Anc A u j := by
  have : ∀ n, ∀ u, u < j → j - u ≤ n → Walk A j u j → Anc A u j := by
    intro n
    induction n with
    | zero => intro u h1 h2; omega
    | succ n ih =>
      intro u h1 h2 h3
      obtain ⟨p, hp1, hp2⟩ := par_exists h1 h3
      rcases Nat.lt_or_ge p j with hl | hl
      · refine .up hp2 (ih p hl (by have := hp2.1; omega) ?_)
        exact ((hp2.2.1.symm hA).mono (by omega)).trans h1 h3
      · obtain rfl : p = j := by omega
        exact .up hp2 (.refl _)
  exact this (j - u) u hu (Nat.le_refl _) h

/-- THE ROW: j is in row i exactly if j lies on the way up from a neighbour of i. -/
theorem row_iff (hA : ∀ a b, A a b → A b a) {i j : Nat} (hij : j < i) : Walk A j j i ↔ ∃ k, A i k ∧ Anc A k j := by
  constructor
  · intro h
    have h' := h.symm hA
    -- the first step of the walk from i
    cases h' with
    | one h1 => exact ⟨j, h1, .refl _⟩
    | @step _ m _ h1 hm hw => exact ⟨m, h1, anc_of_walk hA hm hw⟩
  · rintro ⟨k, h1, h2⟩
    have : ∀ {k j : Nat}, Anc A k j → j < i → (k < i → Walk A k k i) → Walk A j j i := by
      intro k j h
      induction h with
      | refl => intro hj h; exact h hj
      | @up u p v hp hv ih =>
        intro hv' hu
        refine ih hv' (fun hpi => ?_)
        have hui : u < i := by have := hp.1; omega
        have h1 := hu hui
        have h2 := hp.fill
        exact ((h2.symm hA).mono (by have := hp.1; omega)).trans hp.1 (h1.mono (by have := hp.1; omega))
    exact this h2 hij (fun _ => .one (hA _ _ h1))

/-- A column's rest lies in the parent's column. -/
theorem column_up (hA : ∀ a b, A a b → A b a) {j p i : Nat} (hp : IsPar A j p) (hi : p < i) (h : Walk A j j i) : Walk A p p i :=
  ((hp.fill.symm hA).mono (by have := hp.1; omega)).trans hp.1 (h.mono (by have := hp.1; omega))

end
end Go.Fw
