/-
  The plain laws, part 1: total correctness of pure programs in Option: a calculus.
-/
import Derived.Test.YtlalecmgnaoiiaaFw26
namespace Go.Fw

def Ok {α : Type} (x : Option α) (Q : α → Prop) : Prop := ∃ y, x = some y ∧ Q y

section
variable {α β σ ρ τ : Type}

theorem Ok.some_iff {y : α} {Q : α → Prop} : Ok (some y) Q ↔ Q y := ⟨fun ⟨_, h, hq⟩ => by cases h; exact hq, fun h => ⟨y, rfl, h⟩⟩
theorem Ok.none_iff {Q : α → Prop} : Ok none Q ↔ False := ⟨(fun ⟨_, h, _⟩ => by cases h), False.elim⟩
theorem Ok.bind_iff {x : Option α} {f : α → Option β} {Q : β → Prop} : Ok (x.bind f) Q ↔ Ok x (fun y => Ok (f y) Q) := by
  cases x with
  | none => simp only [Option.bind_none, Ok.none_iff]
  | some y => simp only [Option.bind_some, Ok.some_iff]
theorem Ok.map_iff {x : Option α} {f : α → β} {Q : β → Prop} : Ok (x.map f) Q ↔ Ok x (fun y => Q (f y)) := by
  cases x with
  | none => simp only [Option.map_none, Ok.none_iff]
  | some y => simp only [Option.map_some, Ok.some_iff]
theorem Ok.bif_iff {b : Bool} {x y : Option α} {Q : α → Prop} : Ok (bif b then x else y) Q ↔ (b = true → Ok x Q) ∧ (b = false → Ok y Q) := by
  cases b <;> simp
theorem Ok.mono {x : Option α} {P Q : α → Prop} (h : Ok x P) (hq : ∀ y, P y → Q y) : Ok x Q := let ⟨y, h1, h2⟩ := h; ⟨y, h1, hq y h2⟩
theorem Ok.eq_iff {x : Option α} {r : α} : Ok x (· = r) ↔ x = some r := ⟨fun ⟨y, h, e⟩ => by rw [h, e], fun h => ⟨r, h, rfl⟩⟩

theorem Ok.getI_iff {xs : List α} {i : Int} {Q : α → Prop} : Ok (getI xs i) Q ↔ ∃ (h : i.toNat < xs.length), 0 ≤ i ∧ Q xs[i.toNat] := by
  unfold getI
  by_cases hi : 0 ≤ i
  · rw [if_pos hi]
    by_cases hl : i.toNat < xs.length
    · rw [List.getElem?_eq_getElem hl, Ok.some_iff]; simp [hl, hi]
    · rw [List.getElem?_eq_none (by omega), Ok.none_iff]; simp [hl]
  · rw [if_neg hi, Ok.none_iff]; simp [hi]
theorem Ok.getN_iff {xs : List α} {i : Nat} {Q : α → Prop} : Ok (getI xs (i : Int)) Q ↔ ∃ (h : i < xs.length), Q xs[i] := by
  rw [Ok.getI_iff]; simp
theorem Ok.idxN_iff {n : Nat} {i : Int} {Q : Nat → Prop} : Ok (idxN n i) Q ↔ (0 ≤ i ∧ i.toNat < n) ∧ Q i.toNat := by
  unfold idxN
  by_cases h : 0 ≤ i ∧ i.toNat < n
  · rw [if_pos h, Ok.some_iff]; simp [h]
  · rw [if_neg h, Ok.none_iff]; simp [h]
theorem Ok.limO_iff {n : Nat} {Q : Unit → Prop} : Ok (limO n) Q ↔ n ≤ lim ∧ Q () := by
  unfold limO
  by_cases h : n ≤ lim
  · rw [if_pos h, Ok.some_iff]; simp [h]
  · rw [if_neg h, Ok.none_iff]; simp [h]
theorem Ok.madeO_iff {l c : Int} {Q : Nat → Prop} : Ok (madeO l c) Q ↔ (0 ≤ l ∧ l ≤ c ∧ c ≤ (lim : Int)) ∧ Q l.toNat := by
  unfold madeO
  by_cases h : 0 ≤ l ∧ l ≤ c ∧ c ≤ (lim : Int)
  · rw [if_pos h, Ok.some_iff]; simp [h]
  · rw [if_neg h, Ok.none_iff]; simp [h]
/-- What a function says at a place of a list. -/
def atO (xs : List α) (k : Nat) (f : α → Option β) : Option β := match xs[k]? with
  | some e => f e
  | none => none
theorem Ok.atO_iff {xs : List α} {k : Nat} {g : α → Option β} {Q : β → Prop} : Ok (atO xs k g) Q ↔ ∃ (h : k < xs.length), Ok (g xs[k]) Q := by
  unfold atO
  by_cases h : k < xs.length
  · rw [List.getElem?_eq_getElem h]; simp [h]
  · rw [List.getElem?_eq_none (by omega)]; simp [h, Ok.none_iff]
theorem Ok.match_iff {xs : List α} {k : Nat} {g : α → Option β} {Q : β → Prop} : Ok (match xs[k]? with | some e => g e | none => none) Q ↔ ∃ (h : k < xs.length), Ok (g xs[k]) Q := by
  by_cases h : k < xs.length
  · rw [List.getElem?_eq_getElem h]; simp [h]
  · rw [List.getElem?_eq_none (by omega)]; simp [h, Ok.none_iff]

/-- The rule for loops. -/
theorem Ok.loop {f : σ → Option (σ ⊕ ρ)} {Q : ρ → Prop} (I : σ → Prop) (m : σ → Nat) {s : σ} (h0 : I s) (hs : ∀ s, I s → Ok (f s) (fun | .inl s' => I s' ∧ m s' < m s | .inr r => Q r)) : Ok (loop f s) Q := by
  have key : ∀ n s, m s ≤ n → I s → ∃ r, loopN f (n + 1) s = some r ∧ Q r := by
    intro n
    induction n with
    | zero =>
      intro s hm hi
      obtain ⟨y, h1, h2⟩ := hs s hi
      cases y with
      | inl s' => have := h2.2; omega
      | inr r => exact ⟨r, by simp only [loopN, h1], h2⟩
    | succ n ih =>
      intro s hm hi
      obtain ⟨y, h1, h2⟩ := hs s hi
      cases y with
      | inl s' =>
        obtain ⟨r, h3, h4⟩ := ih s' (by have := h2.2; omega) h2.1
        exact ⟨r, by rw [loopN, h1]; exact h3, h4⟩
      | inr r => exact ⟨r, by simp only [loopN, h1], h2⟩
  obtain ⟨r, h1, h2⟩ := key (m s) s (Nat.le_refl _) h0
  exact ⟨r, loop_iff.2 ⟨_, h1⟩, h2⟩

/-- Loops that count up. -/
theorem Ok.for {f : Int × τ → Option ((Int × τ) ⊕ ρ)} {Q : ρ → Prop} (n : Nat) (I : Nat → τ → Prop) {i0 : Nat} {t0 : τ} {j0 : Int} (hj : j0 = (i0 : Int)) (h0 : I i0 t0) (hi : i0 ≤ n)
    (hstep : ∀ i t, i0 ≤ i → i < n → I i t → Ok (f ((i : Int), t)) (fun | .inl s' => s'.1 = ((i + 1 : Nat) : Int) ∧ I (i + 1) s'.2 | .inr r => Q r))
    (hend : ∀ t, I n t → Ok (f ((n : Int), t)) (fun | .inl _ => False | .inr r => Q r)) : Ok (Fw.loop f (j0, t0)) Q := by
  subst hj
  refine Ok.loop (fun s => ∃ i : Nat, i0 ≤ i ∧ i ≤ n ∧ s.1 = (i : Int) ∧ I i s.2) (fun s => n - s.1.toNat) ⟨i0, Nat.le_refl _, hi, rfl, h0⟩ ?_
  rintro ⟨j, t⟩ ⟨i, hl, hi, rfl, ht⟩
  rcases Nat.lt_or_ge i n with h | h
  · refine (hstep i t hl h ht).mono ?_
    rintro (⟨j', t'⟩ | r) hy
    · obtain ⟨e, h2⟩ := hy
      simp only at e
      subst e
      exact ⟨⟨i + 1, by omega, by omega, rfl, h2⟩, by show n - Int.toNat _ < n - Int.toNat _; simp; omega⟩
    · exact hy
  · obtain rfl : i = n := by omega
    refine (hend t ht).mono ?_
    rintro (s' | r) hy
    · exact hy.elim
    · exact hy

/-- What a program gives, the other one gives. -/
def Le (x y : Option α) : Prop := ∀ r, x = some r → y = some r
theorem Le.refl (x : Option α) : Le x x := fun _ h => h
theorem Le.bind {x x' : Option α} {f f' : α → Option β} (h : Le x x') (hf : ∀ y, Le (f y) (f' y)) : Le (x.bind f) (x'.bind f') := fun r hr => by
  obtain ⟨y, h1, h2⟩ := Option.bind_eq_some_iff.1 hr
  exact Option.bind_eq_some_iff.2 ⟨y, h y h1, hf y r h2⟩
theorem Le.bif {b : Bool} {x x' y y' : Option α} (h : Le x x') (k : Le y y') : Le (bif b then x else y) (bif b then x' else y') := by
  cases b
  · exact k
  · exact h
theorem Le.atO {xs : List α} {k : Nat} {f f' : α → Option β} (h : ∀ e, Le (f e) (f' e)) : Le (atO xs k f) (atO xs k f') := by
  unfold Fw.atO
  split
  · exact h _
  · exact Le.refl _
theorem Le.loop {f f' : σ → Option (σ ⊕ ρ)} (h : ∀ s, Le (f s) (f' s)) (n : Nat) (s : σ) : Le (loopN f n s) (Fw.loop f' s) := by
  intro r hr
  refine loop_iff.2 ⟨n, ?_⟩
  induction n generalizing s with
  | zero => cases hr
  | succ n ih =>
    simp only [loopN] at hr ⊢
    split at hr
    · cases hr
    · rename_i s' hs; rw [h _ _ hs]; exact ih s' hr
    · rename_i r' hs; rw [h _ _ hs]; exact hr
end

theorem wrap64q_eq (x : Int) : IntKind.i64.wrap x = if (9223372036854775808 : Int) ≤ x % 18446744073709551616 then x % 18446744073709551616 - 18446744073709551616 else x % 18446744073709551616 := by
  unfold IntKind.wrap
  by_cases h : (9223372036854775808 : Int) ≤ x % 18446744073709551616
  · rw [if_pos h]
    exact if_pos (show (true && decide (x % 18446744073709551616 ≥ (9223372036854775808 : Int))) = true by simp [h])
  · rw [if_neg h]
    exact if_neg (show ¬ (true && decide (x % 18446744073709551616 ≥ (9223372036854775808 : Int))) = true by simp [h])
theorem wrap64 {x : Int} (h1 : -9223372036854775808 ≤ x) (h2 : x ≤ 9223372036854775807) : IntKind.i64.wrap x = x := by
  rw [wrap64q_eq]
  split <;> omega
theorem wrap_succ {i : Nat} (h : i < 9223372036854775807) : IntKind.i64.wrap ((i : Int) + 1) = ((i + 1 : Nat) : Int) := by
  rw [wrap64 (by omega) (by omega)]; simp
end Go.Fw
