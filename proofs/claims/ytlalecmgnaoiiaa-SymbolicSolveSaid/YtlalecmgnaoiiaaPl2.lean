/-
  The plain laws, part 2: the small helpers of the verifier's kit.
-/
import Derived.Test.YtlalecmgnaoiiaaDn20
namespace Go.Fw

/-- The rule for loops that only look: each element passes, or the loop is left. -/
theorem getElem?_ext_lt {α : Type} {a b : List α} (hl : a.length = b.length) (h : ∀ k, k < a.length → a[k]? = b[k]?) : a = b := by
  apply List.ext_getElem?
  intro k
  rcases Nat.lt_or_ge k a.length with h1 | h1
  · exact h k h1
  · rw [List.getElem?_eq_none h1, List.getElem?_eq_none (by omega)]

theorem Ints_eq (a b : List Int) (ha : a.length < 4611686018427387904) : d_sparsekit_Ints (a, b, ()) = some (a == b, ()) := by
  rw [← Ok.eq_iff]
  unfold d_sparsekit_Ints
  simp only [Ok.bif_iff, Ok.bind_iff, Ok.some_iff]
  refine ⟨fun h => ?_, fun h => ?_⟩
  · simp at h
    have : a ≠ b := fun e => h (by rw [e])
    simp [this]
  · simp at h
    have hl : a.length = b.length := by omega
    refine Ok.for (i0 := 0) a.length (fun i _ => ∀ k, k < i → a[k]? = b[k]?) rfl (by simp) (Nat.zero_le _) ?_ ?_
    · intro i t _ hi hI
      simp only [Ok.bif_iff, Ok.bind_iff, Ok.some_iff, Ok.getN_iff]
      refine ⟨fun _ => ⟨hi, by omega, fun hne => ?_, fun he => ?_⟩, fun hf => ?_⟩
      · simp at hne
        have : a ≠ b := fun e => hne (by simp [e])
        simp [this]
      · refine ⟨wrap_succ (by omega), fun k hk => ?_⟩
        rcases Nat.lt_or_ge k i with h1 | h1
        · exact hI k h1
        · obtain rfl : k = i := by omega
          simp at he
          rw [List.getElem?_eq_getElem hi, List.getElem?_eq_getElem (by omega), he]
      · simp at hf; omega
    · intro t hI
      simp only [Ok.bif_iff, Ok.bind_iff, Ok.some_iff]
      refine ⟨fun hf => by simp at hf, fun _ => ?_⟩
      simp [getElem?_ext_lt hl hI]

theorem Lists_eq (a b : List (List Int)) (ha : a.length < 4611686018427387904) (hb : ∀ x ∈ a, x.length < 4611686018427387904) : d_sparsekit_Lists (a, b, ()) = some (a == b, ()) := by
  rw [← Ok.eq_iff]
  unfold d_sparsekit_Lists
  simp only [Ok.bif_iff, Ok.bind_iff, Ok.some_iff]
  refine ⟨fun h => ?_, fun h => ?_⟩
  · simp at h
    have : a ≠ b := fun e => h (by rw [e])
    simp [this]
  · simp at h
    have hl : a.length = b.length := by omega
    refine Ok.for (i0 := 0) a.length (fun i _ => ∀ k, k < i → a[k]? = b[k]?) rfl (by simp) (Nat.zero_le _) ?_ ?_
    · intro i t _ hi hI
      simp only [Ok.bif_iff, Ok.bind_iff, Ok.some_iff, Ok.getN_iff]
      refine ⟨fun _ => ⟨hi, by omega, ?_⟩, fun hf => ?_⟩
      · rw [Ints_eq _ _ (hb _ (List.getElem_mem hi))]
        simp only [Ok.some_iff, Ok.bif_iff]
        refine ⟨fun hne => ?_, fun he => ?_⟩
        · simp at hne
          have : a ≠ b := fun e => hne (by simp [e])
          simp [this]
        · refine ⟨wrap_succ (by omega), fun k hk => ?_⟩
          rcases Nat.lt_or_ge k i with h1 | h1
          · exact hI k h1
          · obtain rfl : k = i := by omega
            simp at he
            rw [List.getElem?_eq_getElem hi, List.getElem?_eq_getElem (by omega), he]
      · simp at hf; omega
    · intro t hI
      simp only [Ok.bif_iff, Ok.bind_iff, Ok.some_iff]
      refine ⟨fun hf => by simp at hf, fun _ => ?_⟩
      simp [getElem?_ext_lt hl hI]

theorem take_snoc {α : Type} {a : List α} {i : Nat} (h : i < a.length) : a.take i ++ [a[i]] = a.take (i + 1) := by
  rw [List.take_add_one, List.getElem?_eq_getElem h]; rfl

theorem TwinInts_eq (a : List Int) (ha : a.length ≤ lim) : d_sparsekit_TwinInts (a, ()) = some (a, ()) := by
  rw [← Ok.eq_iff]
  unfold d_sparsekit_TwinInts
  simp only [Ok.bind_iff, Ok.some_iff]
  have hlim : lim = 4294967296 := rfl
  refine Ok.for (i0 := 0) a.length (fun i t => t.1 = a.take i) rfl rfl (Nat.zero_le _) ?_ ?_
  · rintro i ⟨o, _⟩ _ hi rfl
    simp only [Ok.bif_iff, Ok.bind_iff, Ok.some_iff, Ok.getN_iff, Ok.limO_iff]
    refine ⟨fun _ => ⟨hi, ?_, wrap_succ (by omega), take_snoc hi⟩, fun hf => ?_⟩
    · simp; omega
    · simp at hf; omega
  · rintro ⟨o, _⟩ rfl
    simp only [Ok.bif_iff, Ok.bind_iff, Ok.some_iff]
    exact ⟨fun hf => by simp at hf, fun _ => by simp⟩

theorem TwinLists_eq (a : List (List Int)) (ha : a.length ≤ lim) (hb : ∀ x ∈ a, x.length ≤ lim) : d_sparsekit_TwinLists (a, ()) = some (a, ()) := by
  rw [← Ok.eq_iff]
  unfold d_sparsekit_TwinLists
  simp only [Ok.bind_iff, Ok.some_iff]
  have hlim : lim = 4294967296 := rfl
  refine Ok.for (i0 := 0) a.length (fun i t => t.1 = a.take i) rfl rfl (Nat.zero_le _) ?_ ?_
  · rintro i ⟨o, _⟩ _ hi rfl
    simp only [Ok.bif_iff, Ok.bind_iff, Ok.some_iff, Ok.getN_iff, Ok.limO_iff]
    refine ⟨fun _ => ⟨hi, ?_⟩, fun hf => ?_⟩
    · rw [TwinInts_eq _ (hb _ (List.getElem_mem hi))]
      simp only [Ok.some_iff]
      exact ⟨by simp; omega, wrap_succ (by omega), take_snoc hi⟩
    · simp at hf; omega
  · rintro ⟨o, _⟩ rfl
    simp only [Ok.bif_iff, Ok.bind_iff, Ok.some_iff]
    exact ⟨fun hf => by simp at hf, fun _ => by simp⟩

/-- Ascending, neighbour by neighbour. -/
theorem pairwise_iff {l : List Int} : l.Pairwise (· < ·) ↔ ∀ k, (h : k + 1 < l.length) → l[k] < l[k + 1] := by
  constructor
  · intro h k hk
    exact (List.pairwise_iff_getElem.1 h) k (k + 1) (by omega) hk (by omega)
  · intro h
    rw [List.pairwise_iff_getElem]
    have key : ∀ d i (hi : i < l.length) (hj : i + d + 1 < l.length), l[i] < l[i + d + 1] := by
      intro d
      induction d with
      | zero => intro i hi hj; exact h i hj
      | succ d ih =>
        intro i hi hj
        have h1 := ih i hi (by omega)
        have h2 := h (i + d + 1) (by omega)
        exact Int.lt_trans h1 h2
    intro i j hi hj hij
    obtain ⟨d, rfl⟩ : ∃ d, j = i + d + 1 := ⟨j - i - 1, by omega⟩
    exact key d i hi hj

theorem Ascending_eq (l : List Int) (hl : l.length < 4611686018427387904) : d_sparsekit_Ascending (l, ()) = some (decide (l.Pairwise (· < ·)), ()) := by
  rw [← Ok.eq_iff]
  unfold d_sparsekit_Ascending
  simp only [Ok.bind_iff]
  by_cases h0 : l.length = 0
  · have : l = [] := List.length_eq_zero_iff.1 h0
    subst this
    refine Ok.loop (fun s => s = (1, ())) (fun _ => 0) rfl ?_
    rintro _ rfl
    simp [Ok.some_iff]
  · refine Ok.for (i0 := 1) l.length (fun i _ => ∀ k, (h : k + 1 < l.length) → k + 1 < i → l[k] < l[k + 1]) rfl (fun k _ h => by omega) (by omega) ?_ ?_
    · rintro i _ h1 hi hI
      simp only [Ok.bif_iff, Ok.bind_iff, Ok.some_iff, Ok.getN_iff]
      have e : IntKind.i64.wrap ((i : Int) - 1) = ((i - 1 : Nat) : Int) := by rw [wrap64 (by omega) (by omega)]; omega
      rw [e]
      refine ⟨fun _ => ⟨hi, ?_⟩, fun hf => ?_⟩
      · rw [Ok.getN_iff]
        refine ⟨by omega, ?_⟩
        refine ⟨fun hle => ?_, fun hlt => ⟨wrap_succ (by omega), fun k hk hki => ?_⟩⟩
        · have : ¬ l.Pairwise (· < ·) := fun hp => by
            have := pairwise_iff.1 hp (i - 1) (by omega)
            simp only [show i - 1 + 1 = i by omega] at this
            simp at hle; omega
          simp [this]
        · rcases Nat.lt_or_ge (k + 1) i with h2 | h2
          · exact hI k hk h2
          · obtain rfl : i = k + 1 := by omega
            simp at hlt
            exact hlt
      · simp at hf; omega
    · intro t hI
      simp only [Ok.bif_iff, Ok.bind_iff, Ok.some_iff]
      refine ⟨fun hf => by simp at hf, fun _ => ?_⟩
      have : l.Pairwise (· < ·) := pairwise_iff.2 (fun k hk => hI k hk hk)
      simp [this]
end Go.Fw
