/-
  The plain laws, part 3: Reach of layer 20.
-/
import Derived.Test.YtlalecmgnaoiiaaPl2
namespace Go.Fw

theorem getI_nat {α : Type} (xs : List α) (i : Nat) : getI xs (i : Int) = xs[i]? := by
  unfold getI; simp

theorem awake20 : d_sparselaw20q_awake () = some (true, ()) := le_sparselaw20q_awake 20 () _ (by decide +kernel)

/-- May a list be column j of n columns? -/
def ColOk (l : List Int) (j n : Int) : Prop := l[0]? = some j ∧ l.Pairwise (· < ·) ∧ ∀ x ∈ l, x < n

theorem ColOk.ge {l : List Int} {j n : Int} (h : ColOk l j n) : ∀ x ∈ l, j ≤ x ∧ x < n := by
  intro x hx
  obtain ⟨h1, h2, h3⟩ := h
  refine ⟨?_, h3 x hx⟩
  cases l with
  | nil => cases h1
  | cons y l =>
    simp only [List.getElem?_cons_zero, Option.some.injEq] at h1
    subst h1
    rcases List.mem_cons.1 hx with rfl | hx
    · exact Int.le_refl _
    · exact Int.le_of_lt ((List.pairwise_cons.1 h2).1 x hx)

open Classical in
theorem column_eq (l : List Int) (j n : Int) (hl : l.length < 4611686018427387904) : d_symbolic_column (l, j, n, ()) = some (decide (ColOk l j n), ()) := by
  rw [← Ok.eq_iff]
  unfold d_symbolic_column
  simp only [Ok.bind_iff]
  cases l with
  | nil =>
    have : ¬ ColOk [] j n := fun h => by cases h.1
    simp [Ok.some_iff, this]
  | cons x l =>
    generalize hL : x :: l = L at hl ⊢
    have hpos : 0 < L.length := by rw [← hL]; simp
    have h0 : L[0]? = some x := by rw [← hL]; rfl
    have h00 : L[0] = x := by rw [List.getElem?_eq_getElem hpos] at h0; exact Option.some.inj h0
    have hne : L ≠ [] := by rw [← hL]; simp
    simp only [Ok.bif_iff, Ok.bind_iff, Ok.some_iff]
    refine ⟨fun _ => ?_, fun h => by simp [hne] at h⟩
    rw [show ((0 : Int)) = ((0 : Nat) : Int) from rfl, Ok.getN_iff]
    refine ⟨hpos, fun hb => ?_, fun hb => ?_⟩
    · rw [h00] at hb
      simp at hb
      have : ¬ ColOk L j n := fun h => by have := h.1; rw [h0] at this; cases this; exact hb rfl
      simp [this]
    · rw [h00] at hb
      simp at hb
      subst hb
      refine Ok.for (i0 := 0) L.length (fun i _ => ∀ k, (hk : k < i) → (h : k < L.length) → L[k] < n ∧ ∀ q, k = q + 1 → (hq : q < L.length) → L[q] < L[k]) rfl (fun k hk => by omega) (Nat.zero_le _) ?_ ?_
      · rintro i _ _ hi hI
        simp only [Ok.bif_iff, Ok.bind_iff, Ok.some_iff, Ok.getN_iff]
        refine ⟨fun _ => ⟨hi, fun hlt => ⟨fun hpi => ?_, fun hz => ?_⟩, fun hge => ?_⟩, fun hf => ?_⟩
        · have hip : 0 < i := by simp at hpi; omega
          have e : IntKind.i64.wrap ((i : Int) - 1) = ((i - 1 : Nat) : Int) := by rw [wrap64 (by omega) (by omega)]; omega
          rw [e, Ok.getN_iff]
          refine ⟨by omega, fun hle => ?_, fun hlt2 => ⟨wrap_succ (by omega), fun k hk hkl => ?_⟩⟩
          · have : ¬ ColOk L x n := fun h => by
              have := pairwise_iff.1 h.2.1 (i - 1) (by omega)
              simp only [show i - 1 + 1 = i by omega] at this
              simp at hle; omega
            simp [this]
          · rcases Nat.lt_or_ge k i with h2 | h2
            · exact hI k h2 hkl
            · obtain rfl : k = i := by omega
              simp at hlt hlt2
              refine ⟨hlt, fun q hq hql => ?_⟩
              subst hq
              exact hlt2
        · have hi0 : i = 0 := by simp at hz; omega
          subst hi0
          refine ⟨wrap_succ (by omega), fun k hk hkl => ?_⟩
          obtain rfl : k = 0 := by omega
          simp at hlt
          exact ⟨hlt, fun q hq => by omega⟩
        · have : ¬ ColOk L x n := fun h => by
            have := h.2.2 _ (List.getElem_mem hi)
            simp at hge; omega
          simp [this]
        · simp at hf; omega
      · intro t hI
        simp only [Ok.bif_iff, Ok.some_iff]
        refine ⟨fun hf => by simp at hf, fun _ => ?_⟩
        have : ColOk L x n := ⟨h0, pairwise_iff.2 (fun k hk => (hI (k + 1) hk hk).2 k rfl (by omega)), fun y hy => by
          obtain ⟨k, hk, rfl⟩ := List.mem_iff_getElem.1 hy
          exact (hI k hk hk).1⟩
        simp [this]

/-- The reference's test of a column says the same. -/
theorem ColOk_iff {l : List Int} {j n : Int} (h0 : l.length ≠ 0) : ColOk l j n ↔ l[0] = j ∧ l.Pairwise (· < ·) ∧ l[l.length - 1] < n := by
  have e : l[0]? = some l[0] := List.getElem?_eq_getElem (by omega)
  unfold ColOk
  rw [e]
  simp only [Option.some.injEq]
  constructor
  · exact fun ⟨h1, h2, h3⟩ => ⟨h1, h2, h3 _ (List.getElem_mem _)⟩
  · refine fun ⟨h1, h2, h3⟩ => ⟨h1, h2, fun x hx => ?_⟩
    obtain ⟨k, hk, rfl⟩ := List.mem_iff_getElem.1 hx
    rcases Nat.lt_or_ge k (l.length - 1) with h | h
    · exact Int.lt_trans ((List.pairwise_iff_getElem.1 h2) k (l.length - 1) hk (by omega) h) h3
    · have : k = l.length - 1 := by omega
      simp only [this]; exact h3

/-- The marks of the elements of a list. -/
def mark (m : List Bool) (l : List Int) : List Bool := l.foldl (fun m i => m.set i.toNat true) m
theorem mark_length (m : List Bool) (l : List Int) : (mark m l).length = m.length := by
  unfold mark
  induction l generalizing m with
  | nil => rfl
  | cons x l ih => rw [List.foldl_cons, ih]; simp
theorem mark_snoc (m : List Bool) (l : List Int) (x : Int) : mark m (l ++ [x]) = (mark m l).set x.toNat true := by
  unfold mark; simp

def stepR (cols : List (List Int)) (s : List Bool × List Int) (j : Nat) : List Bool × List Int :=
  if s.1[j]? = some true then (mark s.1 (cols.getD j []), s.2 ++ [(j : Int)]) else s

def reachS (cols : List (List Int)) (m : List Bool) (k : Nat) : List Bool × List Int := (List.range k).foldl (stepR cols) (m, [])
theorem reachS_succ (cols : List (List Int)) (m : List Bool) (k : Nat) : reachS cols m (k + 1) = stepR cols (reachS cols m k) k := by
  unfold reachS; rw [List.range_succ, List.foldl_append]; rfl
theorem reachS_length (cols : List (List Int)) (m : List Bool) (k : Nat) : (reachS cols m k).1.length = m.length ∧ (reachS cols m k).2.length ≤ k := by
  induction k with
  | zero => exact ⟨rfl, Nat.le_refl _⟩
  | succ k ih =>
    rw [reachS_succ]
    unfold stepR
    split
    · exact ⟨by rw [mark_length]; exact ih.1, by simp; omega⟩
    · exact ⟨ih.1, by omega⟩

open Classical in
/-- What Reach answers. -/
noncomputable def reachV (cols : List (List Int)) (b : List Int) : List Int × Int :=
  if 200 < cols.length then ([], 6)
  else if ∀ k, (h : k < cols.length) → ColOk cols[k] k cols.length then
    if ∀ x ∈ b, 0 ≤ x ∧ x < cols.length then ((reachS cols (mark (List.replicate cols.length false) b) cols.length).2, 0) else ([], 3)
  else ([], 1)

theorem Reach_eq (cols : List (List Int)) (b : List Int) (hc : ∀ l ∈ cols, l.length < 4611686018427387904) (hb : b.length < 4611686018427387904) : d_symbolic_Reach (cols, b, ()) = some ((reachV cols b).1, (reachV cols b).2, ()) := by
  classical
  rw [← Ok.eq_iff]
  unfold d_symbolic_Reach
  simp only [Ok.bif_iff, Ok.bind_iff, Ok.some_iff]
  refine ⟨fun h => ?_, fun h => ?_⟩
  · have : 200 < cols.length := by simp at h; omega
    simp [reachV, this]
  have hn : ¬ 200 < cols.length := by simp at h; omega
  -- the columns
  refine Ok.mono (P := fun q => q = if ∀ k, (h : k < cols.length) → ColOk cols[k] k cols.length then .inl () else .inr ([], 1, ())) ?_ ?_
  · refine Ok.for (i0 := 0) cols.length (fun i _ => ∀ k, k < i → (h : k < cols.length) → ColOk cols[k] k cols.length) rfl (fun k hk => by omega) (Nat.zero_le _) ?_ ?_
    · rintro i _ _ hi hI
      simp only [Ok.bif_iff, Ok.bind_iff, Ok.some_iff, Ok.getN_iff]
      refine ⟨fun _ => ⟨hi, ?_⟩, fun hf => ?_⟩
      · rw [column_eq _ _ _ (hc _ (List.getElem_mem hi))]
        simp only [Ok.bif_iff, Ok.some_iff]
        refine ⟨fun hno => ?_, fun hyes => ⟨wrap_succ (by omega), fun k hk hkl => ?_⟩⟩
        · rw [if_neg]
          intro hall
          simp [hall i hi] at hno
        · rcases Nat.lt_or_ge k i with h2 | h2
          · exact hI k h2 hkl
          · obtain rfl : k = i := by omega
            simpa using hyes
      · simp at hf; omega
    · intro t hI
      simp only [Ok.bif_iff, Ok.some_iff]
      refine ⟨fun hf => by simp at hf, fun _ => ?_⟩
      rw [if_pos (fun k hk => hI k hk hk)]
  · rintro q rfl
    by_cases hcol : ∀ k, (h : k < cols.length) → ColOk cols[k] k cols.length
    case neg =>
      rw [if_neg hcol]
      simp only [Ok.some_iff]
      simp [reachV, hn, hcol]
    rw [if_pos hcol]
    simp only [Ok.bind_iff, Ok.madeO_iff]
    refine ⟨⟨by omega, by omega, by unfold lim; omega⟩, ?_⟩
    simp only [Int.toNat_natCast]
    -- the given elements
    refine Ok.mono (P := fun q => q = if ∀ x ∈ b, 0 ≤ x ∧ x < cols.length then .inl (mark (List.replicate cols.length false) b, ()) else .inr ([], 3, ())) ?_ ?_
    · refine Ok.for (i0 := 0) b.length (fun i t => t.1 = mark (List.replicate cols.length false) (b.take i) ∧ ∀ k, k < i → (h : k < b.length) → 0 ≤ b[k] ∧ b[k] < cols.length) rfl ⟨rfl, fun k hk => by omega⟩ (Nat.zero_le _) ?_ ?_
      · rintro i ⟨m, _⟩ _ hi ⟨hm, hI⟩
        simp only at hm
        simp only [Ok.bif_iff, Ok.bind_iff, Ok.some_iff, Ok.getN_iff]
        have hno : ¬ (0 ≤ b[i] ∧ b[i] < cols.length) → ¬ ∀ x ∈ b, 0 ≤ x ∧ x < (cols.length : Int) := fun h hall => h (hall _ (List.getElem_mem hi))
        refine ⟨fun _ => ⟨hi, fun h1 => ⟨fun h2 => ?_, fun h2 => ?_⟩, fun h1 => ⟨fun _ => ?_, fun hf => by cases hf⟩⟩, fun hf => by simp at hf; omega⟩
        · rw [if_neg (hno (fun hh => by simp at h2; omega))]
        · have hr : 0 ≤ b[i] ∧ b[i] < (cols.length : Int) := by simp at h1 h2; omega
          simp only [Ok.idxN_iff, Ok.bind_iff, Ok.atO_iff, Ok.some_iff]
          have hml : m.length = cols.length := by rw [hm, mark_length]; simp
          refine ⟨⟨hr.1, by omega⟩, by omega, wrap_succ (by omega), ?_, fun k hk hkl => ?_⟩
          · rw [hm, ← mark_snoc, take_snoc hi]
          · rcases Nat.lt_or_ge k i with h3 | h3
            · exact hI k h3 hkl
            · obtain rfl : k = i := by omega
              exact hr
        · rw [if_neg (hno (fun hh => by simp at h1; omega))]
      · rintro ⟨m, _⟩ ⟨hm, hI⟩
        simp only at hm
        simp only [Ok.bif_iff, Ok.some_iff]
        refine ⟨fun hf => by simp at hf, fun _ => ?_⟩
        rw [if_pos, hm, List.take_length]
        intro x hx
        obtain ⟨k, hk, rfl⟩ := List.mem_iff_getElem.1 hx
        exact hI k hk hk
    · rintro q rfl
      by_cases hball : ∀ x ∈ b, 0 ≤ x ∧ x < (cols.length : Int)
      case neg =>
        rw [if_neg hball]
        simp only [Ok.some_iff]
        simp [reachV, hn, hcol, hball]
      rw [if_pos hball]
      simp only [Ok.bind_iff]
      generalize hM : mark (List.replicate cols.length false) b = M
      have hMl : M.length = cols.length := by rw [← hM, mark_length]; simp
      have hres : reachV cols b = ((reachS cols M cols.length).2, 0) := by
        unfold reachV
        rw [if_neg hn, if_pos hcol, if_pos hball, hM]
      rw [hres]
      refine Ok.for (i0 := 0) cols.length (fun i t => t.1 = (reachS cols M i).1 ∧ t.2.1 = (reachS cols M i).2) rfl ⟨rfl, rfl⟩ (Nat.zero_le _) ?_ ?_
      · rintro i ⟨m, o, _⟩ _ hi ⟨hm, ho⟩
        simp only at hm ho
        obtain ⟨l1, l2⟩ := reachS_length cols M i
        simp only [Ok.bif_iff, Ok.bind_iff, Ok.some_iff, Ok.getN_iff, Ok.idxN_iff, Ok.atO_iff, Ok.limO_iff, Int.toNat_natCast]
        have hget : cols.getD i [] = cols[i] := by simp [List.getD, hi]
        have hmi : i < m.length := by rw [hm, l1, hMl]; exact hi
        refine ⟨fun _ => ⟨hi, ⟨by omega, hmi⟩, hmi, fun h1 => ⟨wrap_succ (by omega), ?_⟩, fun h1 => ⟨?_, ?_⟩⟩, fun hf => by simp at hf; omega⟩
        · rw [reachS_succ]
          unfold stepR
          rw [if_neg]
          · exact ⟨hm, ho⟩
          · rw [← hm, List.getElem?_eq_getElem hmi]
            simp at h1; simp [h1]
        · rw [ho]; simp only [List.length_singleton]; unfold lim; omega
        · have hcl := hcol i hi
          refine Ok.mono (P := fun q => q.1 = mark m cols[i] ∧ q.2.1 = o ++ [(i : Int)]) ?_ ?_
          · refine Ok.for (i0 := 0) cols[i].length (fun k t => t.1 = mark m (cols[i].take k) ∧ t.2.1 = o ++ [(i : Int)]) rfl ⟨rfl, rfl⟩ (Nat.zero_le _) ?_ ?_
            · rintro k ⟨m', o', _⟩ _ hk ⟨hm', ho'⟩
              simp only at hm' ho'
              simp only [Ok.bif_iff, Ok.bind_iff, Ok.some_iff, Ok.getN_iff, Ok.idxN_iff, Ok.atO_iff]
              have hge := hcl.ge _ (List.getElem_mem hk)
              have hml : m'.length = cols.length := by rw [hm', mark_length, hm, l1, hMl]
              have hcli := hc _ (List.getElem_mem hi)
              refine ⟨fun _ => ⟨hk, ⟨by omega, by omega⟩, by omega, wrap_succ (by omega), ?_, ho'⟩, fun hf => by simp at hf; omega⟩
              rw [hm', ← mark_snoc, take_snoc hk]
            · rintro ⟨m', o', _⟩ ⟨hm', ho'⟩
              simp only at hm' ho'
              simp only [Ok.bif_iff, Ok.some_iff]
              refine ⟨fun hf => by simp at hf, fun _ => ⟨?_, ho'⟩⟩
              rw [hm', List.take_length]
          · rintro ⟨m', o', _⟩ ⟨hm', ho'⟩
            simp only at hm' ho'
            refine ⟨wrap_succ (by omega), ?_⟩
            rw [reachS_succ]
            unfold stepR
            rw [if_pos]
            · rw [hget, ← hm, ← ho]; exact ⟨hm', ho'⟩
            · rw [← hm, List.getElem?_eq_getElem hmi]
              simp at h1; simp [h1]
      · rintro ⟨m, o, _⟩ ⟨hm, ho⟩
        simp only at hm ho
        simp only [Ok.bif_iff, Ok.some_iff]
        exact ⟨fun hf => by simp at hf, fun _ => by rw [ho]⟩
end Go.Fw
