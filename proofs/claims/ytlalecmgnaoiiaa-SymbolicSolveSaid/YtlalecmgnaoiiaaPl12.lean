/-
  The plain laws, part 12: the document's graphs: check, tables, induced graphs.
-/
import Derived.Test.YtlalecmgnaoiiaaPl11
set_option linter.unusedSimpArgs false
set_option linter.unusedVariables false
namespace Go.Fw

theorem Valid_iff (adj : List (List Int)) : Valid adj ↔ ∀ v, (h : v < adj.length) → adj[v].Pairwise (· < ·) ∧ ∀ k, (hk : k < adj[v].length) → (0 ≤ adj[v][k] ∧ adj[v][k] < adj.length) ∧ adj[v][k] ≠ (v : Int) ∧ (v : Int) ∈ adj.getD (adj[v][k]).toNat [] := by
  constructor
  · rintro ⟨h1, h2, h3⟩ v hv
    refine ⟨(h1 v hv).1, fun k hk => ?_⟩
    have hr := (h1 v hv).2 _ (List.getElem_mem hk)
    refine ⟨hr, fun e => h2 v hv (e ▸ List.getElem_mem hk), ?_⟩
    have hw : (adj[v][k]).toNat < adj.length := by omega
    have := h3 v hv _ hw (by rw [Int.toNat_of_nonneg hr.1]; exact List.getElem_mem hk)
    rw [List.getD, List.getElem?_eq_getElem hw]
    exact this
  · intro h
    refine ⟨fun v hv => ⟨(h v hv).1, fun x hx => ?_⟩, fun v hv hm => ?_, fun v hv w hw hm => ?_⟩
    · obtain ⟨k, hk, rfl⟩ := List.mem_iff_getElem.1 hx
      exact ((h v hv).2 k hk).1
    · obtain ⟨k, hk, e⟩ := List.mem_iff_getElem.1 hm
      exact ((h v hv).2 k hk).2.1 e
    · obtain ⟨k, hk, e⟩ := List.mem_iff_getElem.1 hm
      have := ((h v hv).2 k hk).2.2
      rw [e, Int.toNat_natCast, List.getD, List.getElem?_eq_getElem hw] at this
      exact this

theorem refCheck_eq (adj : List (List Int)) (hc : ∀ l ∈ adj, l.length < 4611686018427387904) : d_sparseref12q_Check ((adj, ()), ()) = some (chk adj, ()) := by
  classical
  rw [← Ok.eq_iff]
  unfold d_sparseref12q_Check
  simp only [Ok.bif_iff, Ok.some_iff, Ok.bind_iff]
  refine ⟨fun h => ?_, fun h => ?_⟩
  · have : 200 < adj.length := by simp at h; omega
    simp [chk, this]
  have hn : ¬ 200 < adj.length := by simp at h; omega
  refine Ok.mono (P := fun q => (q = .inl () ∧ Valid adj) ∨ (q = .inr (1, ()) ∧ ¬ Valid adj)) ?_ ?_
  rotate_left
  · rintro _ (⟨rfl, hv⟩ | ⟨rfl, hv⟩)
    · simp only [Ok.some_iff]; simp [chk, hn, hv]
    · simp only [Ok.some_iff]; simp [chk, hn, hv]
  refine Ok.for (i0 := 0) adj.length (fun i _ => ∀ v, (h : v < adj.length) → v < i → adj[v].Pairwise (· < ·) ∧ ∀ k, (hk : k < adj[v].length) → (0 ≤ adj[v][k] ∧ adj[v][k] < adj.length) ∧ adj[v][k] ≠ (v : Int) ∧ (v : Int) ∈ adj.getD (adj[v][k]).toNat []) rfl (fun v _ h => by omega) (Nat.zero_le _) ?_ ?_
  · rintro v _ _ hv hI
    have hvl := hc _ (List.getElem_mem hv)
    simp only [Ok.bif_iff, Ok.some_iff, Ok.bind_iff, Ok.getN_iff]
    refine ⟨fun _ => ⟨hv, ?_⟩, fun hf => by simp at hf; omega⟩
    rw [Ascending_eq _ hvl]
    simp only [Ok.some_iff]
    refine ⟨fun ha => .inr ⟨trivial, fun hV => ?_⟩, fun ha => ?_⟩
    · have := (hV.asc v hv).1
      simp [this] at ha
    have ha : adj[v].Pairwise (· < ·) := by simpa using ha
    refine Ok.mono (P := fun q => (q = .inl () ∧ ∀ k, (hk : k < adj[v].length) → (0 ≤ adj[v][k] ∧ adj[v][k] < adj.length) ∧ adj[v][k] ≠ (v : Int) ∧ (v : Int) ∈ adj.getD (adj[v][k]).toNat []) ∨ (q = .inr (.inr (.inr (1, ()))) ∧ ¬ Valid adj)) ?_ ?_
    rotate_left
    · rintro _ (⟨rfl, hq⟩ | ⟨rfl, hq⟩)
      · simp only [Ok.some_iff]
        refine ⟨wrap_succ (by omega), fun u hu huv => ?_⟩
        rcases Nat.lt_or_ge u v with h | h
        · exact hI u hu h
        · obtain rfl : u = v := by omega
          exact ⟨ha, hq⟩
      · simp only [Ok.some_iff]
        exact .inr ⟨trivial, hq⟩
    refine Ok.for (i0 := 0) adj[v].length (fun i _ => ∀ k, (hk : k < adj[v].length) → k < i → (0 ≤ adj[v][k] ∧ adj[v][k] < adj.length) ∧ adj[v][k] ≠ (v : Int) ∧ (v : Int) ∈ adj.getD (adj[v][k]).toNat []) rfl (fun v _ h => by omega) (Nat.zero_le _) ?_ ?_
    · rintro k _ _ hk hI2
      have hbad : ¬ ((0 ≤ adj[v][k] ∧ adj[v][k] < adj.length) ∧ adj[v][k] ≠ (v : Int) ∧ (v : Int) ∈ adj.getD (adj[v][k]).toNat []) → ¬ Valid adj := fun h hV => h (((Valid_iff adj).1 hV v hv).2 k hk)
      simp only [Ok.bif_iff, Ok.some_iff, Ok.bind_iff, Ok.getN_iff]
      refine ⟨hv, fun _ => ⟨hv, hk, fun h1 => ⟨fun h2 => ⟨fun h3 => ?_, fun h3 => ?_⟩, fun h2 => ?_⟩, fun h1 => ?_⟩, fun hf => by simp at hf; omega⟩
      · have hr : 0 ≤ adj[v][k] ∧ adj[v][k] < (adj.length : Int) := by simp at h1 h2; omega
        have hne : adj[v][k] ≠ (v : Int) := by simpa using h3
        rw [Ok.getI_iff]
        refine ⟨by omega, hr.1, ?_⟩
        rw [In_eq _ _ (hc _ (List.getElem_mem _))]
        have hg : adj.getD (adj[v][k]).toNat [] = adj[(adj[v][k]).toNat]'(by omega) := by
          rw [List.getD, List.getElem?_eq_getElem (by omega)]; rfl
        simp only [Ok.some_iff]
        refine ⟨fun h4 => .inr ⟨trivial, hbad ?_⟩, fun h4 => ⟨wrap_succ (by omega), fun k' hk' hkk => ?_⟩⟩
        · rintro ⟨_, _, hm⟩
          rw [hg] at hm
          simp [hm] at h4
        · rcases Nat.lt_or_ge k' k with h | h
          · exact hI2 k' hk' h
          · obtain rfl : k' = k := by omega
            refine ⟨hr, hne, ?_⟩
            rw [hg]
            simpa using h4
      · refine .inr ⟨trivial, hbad (fun hh => hh.2.1 ?_)⟩
        simpa using h3
      · refine .inr ⟨trivial, hbad (fun hh => ?_)⟩
        simp at h2; omega
      · refine .inr ⟨trivial, hbad (fun hh => ?_)⟩
        simp at h1; omega
    · rintro _ hI2
      simp only [Ok.bif_iff, Ok.some_iff, Ok.bind_iff, Ok.getN_iff]
      exact ⟨hv, fun hf => by simp at hf, fun _ => .inl ⟨trivial, fun k hk => hI2 k hk hk⟩⟩
  · rintro _ hI
    simp only [Ok.bif_iff, Ok.some_iff]
    exact ⟨fun hf => by simp at hf, fun _ => .inl ⟨trivial, (Valid_iff adj).2 fun v hv => hI v hv hv⟩⟩

theorem Range_eq (l : List Int) (n : Int) (hl : l.length < 4611686018427387904) : d_sparseref09q_Range (l, n, ()) = some (decide (∀ x ∈ l, 0 ≤ x ∧ x < n), ()) := by
  rw [← Ok.eq_iff]
  unfold d_sparseref09q_Range
  simp only [Ok.bind_iff]
  refine Ok.mono (P := fun q => (q = .inl () ∧ ∀ x ∈ l, 0 ≤ x ∧ x < n) ∨ (q = .inr (false, ()) ∧ ¬ ∀ x ∈ l, 0 ≤ x ∧ x < n)) ?_ ?_
  · refine Ok.for (i0 := 0) l.length (fun i _ => ∀ k, (h : k < l.length) → k < i → 0 ≤ l[k] ∧ l[k] < n) rfl (fun k _ h => by omega) (Nat.zero_le _) ?_ ?_
    · rintro i _ _ hi hI
      have hbad : ¬ (0 ≤ l[i] ∧ l[i] < n) → ¬ ∀ x ∈ l, 0 ≤ x ∧ x < n := fun h hh => h (hh _ (List.getElem_mem hi))
      simp only [Ok.bif_iff, Ok.bind_iff, Ok.some_iff, Ok.getN_iff]
      refine ⟨fun _ => ⟨hi, fun h1 => ⟨hi, fun h2 => .inr ⟨trivial, hbad (fun h => ?_)⟩, fun h2 => ⟨wrap_succ (by omega), fun k hk hki => ?_⟩⟩, fun h1 => .inr ⟨trivial, hbad (fun h => ?_)⟩⟩, fun hf => by simp at hf; omega⟩
      · simp at h2; omega
      · rcases Nat.lt_or_ge k i with h | h
        · exact hI k hk h
        · obtain rfl : k = i := by omega
          simp at h1 h2; omega
      · simp at h1; omega
    · rintro _ hI
      simp only [Ok.bif_iff, Ok.some_iff]
      refine ⟨fun hf => by simp at hf, fun _ => .inl ⟨trivial, fun x hx => ?_⟩⟩
      obtain ⟨k, hk, rfl⟩ := List.mem_iff_getElem.1 hx
      exact hI k hk hk
  · rintro _ (⟨rfl, h⟩ | ⟨rfl, h⟩)
    · simp only [Ok.some_iff]; rw [decide_eq_true h]
    · simp only [Ok.some_iff]; rw [decide_eq_false h]

theorem nodup_iff {l : List Int} : l.Nodup ↔ ∀ i, (h : i < l.length) → l[i] ∉ l.take i := by
  unfold List.Nodup
  rw [List.pairwise_iff_getElem]
  constructor
  · intro h i hi hm
    obtain ⟨k, hk, e⟩ := List.mem_iff_getElem.1 hm
    simp only [List.length_take] at hk
    simp only [List.getElem_take] at e
    exact h k i (by omega) hi (by omega) e
  · intro h i j hi hj hij e
    exact h j hj (List.mem_iff_getElem.2 ⟨i, by simp; omega, by simp [e]⟩)

theorem Twice_eq (l : List Int) (hl : l.length < 4611686018427387904) : d_sparseref09q_Twice (l, ()) = some (decide (¬ l.Nodup), ()) := by
  rw [← Ok.eq_iff]
  unfold d_sparseref09q_Twice
  simp only [Ok.bind_iff]
  refine Ok.mono (P := fun q => (q = .inl () ∧ l.Nodup) ∨ (q = .inr (true, ()) ∧ ¬ l.Nodup)) ?_ ?_
  · refine Ok.for (i0 := 0) l.length (fun i _ => ∀ k, (h : k < l.length) → k < i → l[k] ∉ l.take k) rfl (fun k _ h => by omega) (Nat.zero_le _) ?_ ?_
    · rintro i _ _ hi hI
      have e1 : natO (i : Int) = some i := by unfold natO; rw [if_pos (by omega), Int.toNat_natCast]
      have e2 : leO 0 i l.length = some () := by unfold leO; rw [if_pos (by omega)]
      simp only [Ok.bif_iff, Ok.bind_iff, Ok.some_iff, Ok.getN_iff, e1, e2, Option.bind_some, Option.map_some, List.drop_zero]
      refine ⟨fun _ => ⟨hi, ?_⟩, fun hf => by simp at hf; omega⟩
      rw [In_eq _ _ (by rw [List.length_take]; omega)]
      simp only [Ok.some_iff]
      refine ⟨fun h => .inr ⟨trivial, fun hd => ?_⟩, fun h => ⟨wrap_succ (by omega), fun k hk hki => ?_⟩⟩
      · exact nodup_iff.1 hd i hi (of_decide_eq_true h)
      · rcases Nat.lt_or_ge k i with h2 | h2
        · exact hI k hk h2
        · obtain rfl : k = i := by omega
          exact of_decide_eq_false h
    · rintro _ hI
      simp only [Ok.bif_iff, Ok.some_iff]
      exact ⟨fun hf => by simp at hf, fun _ => .inl ⟨trivial, nodup_iff.2 fun k hk => hI k hk hk⟩⟩
  · rintro _ (⟨rfl, h⟩ | ⟨rfl, h⟩)
    · simp only [Ok.some_iff]; rw [decide_eq_false (fun hh => hh h)]
    · simp only [Ok.some_iff]; rw [decide_eq_true h]

/-- The table of a graph. -/
def tabT (adj : List (List Int)) : List (List Bool) := (List.range adj.length).map fun v => (List.range adj.length).map fun (w : Nat) => decide ((w : Int) ∈ adj.getD v [])

theorem tabT_length (adj : List (List Int)) : (tabT adj).length = adj.length := by simp [tabT]
theorem tabT_row {adj : List (List Int)} {v : Nat} (hv : v < adj.length) : (tabT adj)[v]? = some ((List.range adj.length).map fun (w : Nat) => decide ((w : Int) ∈ adj[v])) := by
  simp [tabT, hv, List.getD]

theorem Table_eq {adj : List (List Int)} (hc : ∀ l ∈ adj, l.length < 4611686018427387904) (hn : adj.length ≤ 200) (hr : ∀ v, (h : v < adj.length) → ∀ x ∈ adj[v], 0 ≤ x ∧ x < (adj.length : Int)) : d_sparseref12q_Table ((adj, ()), ()) = some (tabT adj, ()) := by
  rw [← Ok.eq_iff]
  unfold d_sparseref12q_Table
  have hlim : lim = 4294967296 := rfl
  simp only [Ok.bind_iff]
  refine Ok.mono (P := fun q => q.1 = tabT adj) ?_ (by rintro ⟨o, _⟩ h; simp only at h; simp only [Ok.some_iff]; rw [h])
  refine Ok.for (i0 := 0) adj.length (fun i t => t.1 = (tabT adj).take i) rfl (by simp) (Nat.zero_le _) ?_ ?_
  · rintro v ⟨out, _⟩ _ hv ho
    simp only at ho
    have hvl := hc _ (List.getElem_mem hv)
    simp only [Ok.bif_iff, Ok.bind_iff, Ok.madeO_iff, Int.toNat_natCast]
    refine ⟨fun _ => ⟨⟨by omega, by omega, by omega⟩, ?_⟩, fun hf => by simp at hf; omega⟩
    refine Ok.mono (P := fun q => q.1 = out ∧ q.2.1 = (List.range adj.length).map fun (w : Nat) => decide ((w : Int) ∈ adj[v])) ?_ ?_
    · refine Ok.for (i0 := 0) adj[v].length (fun k t => t.1 = out ∧ t.2.1 = (List.range adj.length).map fun (w : Nat) => decide ((w : Int) ∈ adj[v].take k)) rfl ⟨rfl, ?_⟩ (Nat.zero_le _) ?_ ?_
      · apply List.ext_getElem?
        intro k
        simp [List.getElem?_replicate]
        split <;> simp_all
      · rintro k ⟨o, row, _⟩ _ hk ⟨h1, h2⟩
        simp only at h1 h2
        have hx := hr v hv _ (List.getElem_mem hk)
        have hrl : row.length = adj.length := by rw [h2]; simp
        simp only [Ok.bif_iff, Ok.bind_iff, Ok.getN_iff, Ok.idxN_iff, Ok.atO_iff, Ok.some_iff]
        refine ⟨hv, fun _ => ⟨hv, hk, ⟨hx.1, by omega⟩, by omega, wrap_succ (by omega), h1, ?_⟩, fun hf => by simp at hf; omega⟩
        apply List.ext_getElem?
        intro u
        rw [List.getElem?_set, h2, List.getElem?_map, List.getElem?_map]
        rcases Nat.lt_or_ge u adj.length with h | h
        · rw [List.getElem?_range h]
          simp only [Option.map_some, ← take_snoc hk, List.mem_append, List.mem_singleton, List.length_map, List.length_range]
          by_cases hu : (adj[v][k]).toNat = u
          · rw [if_pos hu, if_pos (by omega)]
            have : (u : Int) = adj[v][k] := by omega
            simp [this]
          · rw [if_neg hu]
            have : ¬ (u : Int) = adj[v][k] := by omega
            simp [this]
        · rw [if_neg (by omega), List.getElem?_eq_none (by simpa using h)]; rfl
      · rintro ⟨o, row, _⟩ ⟨h1, h2⟩
        simp only at h1 h2
        simp only [Ok.bif_iff, Ok.bind_iff, Ok.getN_iff, Ok.some_iff]
        refine ⟨hv, fun hf => by simp at hf, fun _ => ⟨h1, ?_⟩⟩
        rw [h2, List.take_length]
    · rintro ⟨o, row, _⟩ ⟨h1, h2⟩
      simp only at h1 h2
      subst h1
      simp only [Ok.bind_iff, Ok.limO_iff, Ok.some_iff]
      refine ⟨by rw [ho]; simp; omega, wrap_succ (by omega), ?_⟩
      rw [ho, h2]
      have := tabT_row hv
      rw [List.take_add_one, this]; rfl
  · rintro ⟨out, _⟩ ho
    simp only at ho
    simp only [Ok.bif_iff, Ok.some_iff]
    refine ⟨fun hf => by simp at hf, fun _ => ?_⟩
    rw [ho, ← tabT_length, List.take_length]

theorem empty_eq (n : Nat) (hn : n ≤ 4294967296) : d_sparseref12q_empty ((n : Int), ()) = some (List.replicate n (List.replicate n false), ()) := by
  rw [← Ok.eq_iff]
  unfold d_sparseref12q_empty
  have hlim : lim = 4294967296 := rfl
  simp only [Ok.bind_iff]
  refine Ok.mono (P := fun q => q.1 = List.replicate n (List.replicate n false)) ?_ (by rintro ⟨o, _⟩ h; simp only at h; simp only [Ok.some_iff]; rw [h])
  refine Ok.for (i0 := 0) n (fun i s => s.1 = List.replicate i (List.replicate n false)) rfl rfl (Nat.zero_le _) ?_ ?_
  · rintro i ⟨t, _⟩ _ hi ht
    simp only at ht
    simp only [Ok.bif_iff, Ok.bind_iff, Ok.some_iff, Ok.madeO_iff, Ok.limO_iff, Int.toNat_natCast]
    refine ⟨fun _ => ⟨⟨by omega, by omega, by omega⟩, by rw [ht]; simp; omega, wrap_succ (by omega), ?_⟩, fun hf => by simp at hf; omega⟩
    rw [ht, List.replicate_succ']
  · rintro ⟨t, _⟩ ht
    simp only [Ok.bif_iff, Ok.some_iff]
    exact ⟨fun hf => by simp at hf, fun _ => ht⟩
end Go.Fw
