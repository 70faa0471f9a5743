/-
  The plain laws, part 4: the law SymbolicReach on the pure programs.
-/
import Derived.Test.YtlalecmgnaoiiaaPl3
namespace Go.Fw

theorem refReach_eq (cols : List (List Int)) (b : List Int) (hc : ∀ l ∈ cols, l.length < 4611686018427387904) (hb : b.length < 4611686018427387904) : d_sparseref20q_Reach (cols, b, ()) = some ((reachV cols b).1, (reachV cols b).2, ()) := by
  classical
  rw [← Ok.eq_iff]
  unfold d_sparseref20q_Reach
  simp only [Ok.bif_iff, Ok.bind_iff, Ok.some_iff]
  refine ⟨fun h => ?_, fun h => ?_⟩
  · have : 200 < cols.length := by simp at h; omega
    simp [reachV, this]
  have hn : ¬ 200 < cols.length := by simp at h; omega
  -- the columns
  refine Ok.mono (P := fun q => q = if ∀ k, (h : k < cols.length) → ColOk cols[k] k cols.length then .inl () else .inr ([], 1, ())) ?_ ?_
  · refine Ok.for (i0 := 0) cols.length (fun i _ => ∀ k, k < i → (h : k < cols.length) → ColOk cols[k] k cols.length) rfl (fun k hk => by omega) (Nat.zero_le _) ?_ ?_
    · rintro i _ _ hi hI
      simp only [Ok.bif_iff, Ok.bind_iff, Ok.some_iff, Ok.getN_iff]
      refine ⟨fun _ => ⟨hi, ?_⟩, fun hf => by simp at hf; omega⟩
      have hL := hc _ (List.getElem_mem hi)
      generalize hy : cols[i] = y at hL
      have hno : ¬ ColOk y i cols.length → ¬ ∀ k, (h : k < cols.length) → ColOk cols[k] k cols.length := fun h hall => h (hy ▸ hall i hi)
      have hyes : ColOk y i cols.length → ∀ k, k < i + 1 → (h : k < cols.length) → ColOk cols[k] k cols.length := fun h k hk hkl => by
        rcases Nat.lt_or_ge k i with h2 | h2
        · exact hI k h2 hkl
        · obtain rfl : k = i := by omega
          exact hy ▸ h
      refine ⟨fun h1 => ?_, fun h1 => ⟨(fun _ => ?_), fun h => by cases h⟩⟩
      · have h0 : y.length ≠ 0 := by
          intro h0
          rw [h0] at h1
          simp at h1
        rw [show ((0 : Int)) = ((0 : Nat) : Int) from rfl, Ok.getN_iff]
        refine ⟨by omega, fun h2 => ?_, fun h2 => ⟨(fun _ => ?_), fun h => by cases h⟩⟩
        · rw [Ascending_eq _ hL]
          simp only [Ok.some_iff]
          refine ⟨fun h3 => ?_, fun h3 => ⟨(fun _ => ?_), fun h => by cases h⟩⟩
          · have e : IntKind.i64.wrap ((y.length : Int) - 1) = ((y.length - 1 : Nat) : Int) := by rw [wrap64 (by omega) (by omega)]; omega
            rw [e, Ok.getN_iff]
            refine ⟨by omega, fun h4 => ?_, fun h4 => ?_⟩
            · rw [if_neg (hno (fun hh => by have := (ColOk_iff h0).1 hh; simp at h4; omega))]
            · refine ⟨wrap_succ (by omega), hyes ((ColOk_iff h0).2 ⟨?_, ?_, ?_⟩)⟩
              · simpa using h2
              · simpa using h3
              · simp at h4; omega
          · rw [if_neg (hno (fun hh => by have := (ColOk_iff h0).1 hh; simp [this.2.1] at h3))]
        · rw [if_neg (hno (fun hh => by have := (ColOk_iff h0).1 hh; simp [this.1] at h2))]
      · have h0 : y = [] := by simpa using h1
        rw [if_neg (hno (fun hh => by have := hh.1; rw [h0] at this; cases this))]
    · intro t hI
      simp only [Ok.bif_iff, Ok.some_iff]
      refine ⟨fun hf => by simp at hf, fun _ => ?_⟩
      rw [if_pos (fun k hk => hI k hk hk)]
  · rintro q rfl
    by_cases hcol : ∀ k, (h : k < cols.length) → ColOk cols[k] k cols.length
    case neg =>
      rw [if_neg hcol]
      simp only [Ok.some_iff]
      simp [reachV, hn, hcol]
    rw [if_pos hcol]
    simp only [Ok.bind_iff, Ok.madeO_iff]
    refine ⟨⟨by omega, by omega, by unfold lim; omega⟩, ?_⟩
    simp only [Int.toNat_natCast]
    -- the given elements
    refine Ok.mono (P := fun q => q = if ∀ x ∈ b, 0 ≤ x ∧ x < cols.length then .inl (mark (List.replicate cols.length false) b, ()) else .inr ([], 3, ())) ?_ ?_
    · refine Ok.for (i0 := 0) b.length (fun i t => t.1 = mark (List.replicate cols.length false) (b.take i) ∧ ∀ k, k < i → (h : k < b.length) → 0 ≤ b[k] ∧ b[k] < cols.length) rfl ⟨rfl, fun k hk => by omega⟩ (Nat.zero_le _) ?_ ?_
      · rintro i ⟨m, _⟩ _ hi ⟨hm, hI⟩
        simp only at hm
        simp only [Ok.bif_iff, Ok.bind_iff, Ok.some_iff, Ok.getN_iff]
        have hno : ¬ (0 ≤ b[i] ∧ b[i] < cols.length) → ¬ ∀ x ∈ b, 0 ≤ x ∧ x < (cols.length : Int) := fun h hall => h (hall _ (List.getElem_mem hi))
        refine ⟨fun _ => ⟨hi, fun h1 => ⟨hi, fun h2 => ?_, fun h2 => ⟨hi, ?_⟩⟩, fun h1 => ⟨fun _ => ?_, fun hf => by cases hf⟩⟩, fun hf => by simp at hf; omega⟩
        · rw [if_neg (hno (fun hh => by simp at h2; omega))]
        · have hr : 0 ≤ b[i] ∧ b[i] < (cols.length : Int) := by simp at h1 h2; omega
          simp only [Ok.idxN_iff, Ok.bind_iff, Ok.atO_iff, Ok.some_iff]
          have hml : m.length = cols.length := by rw [hm, mark_length]; simp
          refine ⟨⟨hr.1, by omega⟩, by omega, wrap_succ (by omega), ?_, fun k hk hkl => ?_⟩
          · rw [hm, ← mark_snoc, take_snoc hi]
          · rcases Nat.lt_or_ge k i with h3 | h3
            · exact hI k h3 hkl
            · obtain rfl : k = i := by omega
              exact hr
        · rw [if_neg (hno (fun hh => by simp at h1; omega))]
      · rintro ⟨m, _⟩ ⟨hm, hI⟩
        simp only at hm
        simp only [Ok.bif_iff, Ok.some_iff]
        refine ⟨fun hf => by simp at hf, fun _ => ?_⟩
        rw [if_pos, hm, List.take_length]
        intro x hx
        obtain ⟨k, hk, rfl⟩ := List.mem_iff_getElem.1 hx
        exact hI k hk hk
    · rintro q rfl
      by_cases hball : ∀ x ∈ b, 0 ≤ x ∧ x < (cols.length : Int)
      case neg =>
        rw [if_neg hball]
        simp only [Ok.some_iff]
        simp [reachV, hn, hcol, hball]
      rw [if_pos hball]
      simp only [Ok.bind_iff]
      generalize hM : mark (List.replicate cols.length false) b = M
      have hMl : M.length = cols.length := by rw [← hM, mark_length]; simp
      have hres : reachV cols b = ((reachS cols M cols.length).2, 0) := by
        unfold reachV
        rw [if_neg hn, if_pos hcol, if_pos hball, hM]
      rw [hres]
      refine Ok.for (i0 := 0) cols.length (fun i t => t.1 = (reachS cols M i).1 ∧ t.2.1 = (reachS cols M i).2) rfl ⟨rfl, rfl⟩ (Nat.zero_le _) ?_ ?_
      · rintro i ⟨m, o, _⟩ _ hi ⟨hm, ho⟩
        simp only at hm ho
        obtain ⟨l1, l2⟩ := reachS_length cols M i
        simp only [Ok.bif_iff, Ok.bind_iff, Ok.some_iff, Ok.idxN_iff, Ok.atO_iff, Ok.limO_iff, Int.toNat_natCast]
        have hget : cols.getD i [] = cols[i] := by simp [List.getD, hi]
        have hmi : i < m.length := by rw [hm, l1, hMl]; exact hi
        refine ⟨fun _ => ⟨⟨by omega, hmi⟩, hmi, fun h1 => ⟨wrap_succ (by omega), ?_⟩, fun h1 => ⟨?_, ?_⟩⟩, fun hf => by simp at hf; omega⟩
        · rw [reachS_succ]
          unfold stepR
          rw [if_neg]
          · exact ⟨hm, ho⟩
          · rw [← hm, List.getElem?_eq_getElem hmi]
            simp at h1; simp [h1]
        · rw [ho]; simp only [List.length_singleton]; unfold lim; omega
        · have hcl := hcol i hi
          refine Ok.mono (P := fun q => q.1 = mark m cols[i] ∧ q.2.1 = o ++ [(i : Int)]) ?_ ?_
          · refine Ok.for (i0 := 0) cols[i].length (fun k t => t.1 = mark m (cols[i].take k) ∧ t.2.1 = o ++ [(i : Int)]) rfl ⟨rfl, rfl⟩ (Nat.zero_le _) ?_ ?_
            · rintro k ⟨m', o', _⟩ _ hk ⟨hm', ho'⟩
              simp only at hm' ho'
              simp only [Ok.bif_iff, Ok.bind_iff, Ok.some_iff, Ok.getN_iff, Ok.idxN_iff, Ok.atO_iff]
              have hge := hcl.ge _ (List.getElem_mem hk)
              have hml : m'.length = cols.length := by rw [hm', mark_length, hm, l1, hMl]
              have hcli := hc _ (List.getElem_mem hi)
              refine ⟨hi, fun _ => ⟨hi, hk, ⟨by omega, by omega⟩, by omega, wrap_succ (by omega), ?_, ho'⟩, fun hf => by simp at hf; omega⟩
              rw [hm', ← mark_snoc, take_snoc hk]
            · rintro ⟨m', o', _⟩ ⟨hm', ho'⟩
              simp only at hm' ho'
              simp only [Ok.bif_iff, Ok.bind_iff, Ok.getN_iff, Ok.some_iff]
              refine ⟨hi, fun hf => by simp at hf, fun _ => ⟨?_, ho'⟩⟩
              rw [hm', List.take_length]
          · rintro ⟨m', o', _⟩ ⟨hm', ho'⟩
            simp only at hm' ho'
            refine ⟨wrap_succ (by omega), ?_⟩
            rw [reachS_succ]
            unfold stepR
            rw [if_pos]
            · rw [hget, ← hm, ← ho]; exact ⟨hm', ho'⟩
            · rw [← hm, List.getElem?_eq_getElem hmi]
              simp at h1; simp [h1]
      · rintro ⟨m, o, _⟩ ⟨hm, ho⟩
        simp only at hm ho
        simp only [Ok.bif_iff, Ok.some_iff]
        exact ⟨fun hf => by simp at hf, fun _ => by rw [ho]⟩

theorem reachV_length (cols : List (List Int)) (b : List Int) : (reachV cols b).1.length ≤ 200 := by
  unfold reachV
  split
  · simp
  · split
    · split
      · have := (reachS_length cols (mark (List.replicate cols.length false) b) cols.length).2
        simp only; omega
      · simp
    · simp

theorem SymbolicReach_true (cols : List (List Int)) (b : List Int) : d_sparselaw20q_SymbolicReach (cols, b, ()) = some (true, ()) := by
  rw [← Ok.eq_iff]
  unfold d_sparselaw20q_SymbolicReach
  simp only [Ok.bind_iff]
  -- the sizes
  refine Ok.mono (P := fun q => (∃ c, q = (c, ())) ∧ (q.1 = false → cols.length ≤ 400 ∧ b.length ≤ 20)) ?_ ?_
  · simp only [Ok.bif_iff, Ok.some_iff]
    simp
    omega
  rintro _ ⟨⟨c, rfl⟩, hc⟩
  simp only [Ok.bif_iff, Ok.bind_iff, Ok.some_iff, awake20]
  refine ⟨fun _ => trivial, fun hcf => ?_⟩
  obtain ⟨h1, h2⟩ := hc hcf
  refine Ok.mono (P := fun q => q = .inr (true, ()) ∨ (q = .inl () ∧ ∀ l ∈ cols, l.length ≤ 20)) ?_ ?_
  · refine Ok.for (i0 := 0) cols.length (fun i _ => ∀ k, k < i → (h : k < cols.length) → cols[k].length ≤ 20) rfl (fun k hk => by omega) (Nat.zero_le _) ?_ ?_
    · rintro i _ _ hi hI
      simp only [Ok.bif_iff, Ok.bind_iff, Ok.some_iff, Ok.getN_iff, awake20]
      refine ⟨fun _ => ⟨hi, fun _ => .inl trivial, fun hle => ⟨wrap_succ (by omega), fun k hk hkl => ?_⟩⟩, fun hf => by simp at hf; omega⟩
      rcases Nat.lt_or_ge k i with h3 | h3
      · exact hI k h3 hkl
      · obtain rfl : k = i := by omega
        simp at hle; omega
    · intro t hI
      simp only [Ok.bif_iff, Ok.some_iff]
      refine ⟨fun hf => by simp at hf, fun _ => .inr ⟨trivial, fun l hl => ?_⟩⟩
      obtain ⟨k, hk, rfl⟩ := List.mem_iff_getElem.1 hl
      exact hI k hk hk
  · rintro q (rfl | ⟨rfl, h3⟩)
    · simp only [Ok.some_iff]
    · have hlim : lim = 4294967296 := rfl
      have l1 : ∀ l ∈ cols, l.length < 4611686018427387904 := fun l hl => by have := h3 l hl; omega
      have l2 := reachV_length cols b
      simp only [Ok.bind_iff, Ok.some_iff, TwinLists_eq cols (by omega) (fun l hl => by have := h3 l hl; omega), TwinInts_eq b (by omega), Reach_eq cols b l1 (by omega), refReach_eq cols b l1 (by omega),
        Ints_eq _ _ (show (reachV cols b).1.length < 4611686018427387904 by omega), Lists_eq cols cols (by omega) l1, Ints_eq b b (by omega), Ok.bif_iff, awake20]
      simp
end Go.Fw
