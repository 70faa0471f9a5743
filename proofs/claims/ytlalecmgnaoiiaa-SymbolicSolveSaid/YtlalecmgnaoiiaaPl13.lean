/-
  The plain laws, part 13: induced graphs and levels of the document.
-/
import Derived.Test.YtlalecmgnaoiiaaPl12
set_option linter.unusedSimpArgs false
set_option linter.unusedVariables false
namespace Go.Fw

/-- The table of the graph that a list of vertices induces. -/
def indT (adj : List (List Int)) (l : List Int) : List (List Bool) := (List.range l.length).map fun (i : Nat) => (List.range l.length).map fun (j : Nat) => decide (l.getD j 0 ∈ adj.getD (l.getD i 0).toNat [])

theorem indT_length (adj : List (List Int)) (l : List Int) : (indT adj l).length = l.length := by simp [indT]
theorem bit_indT {adj : List (List Int)} {l : List Int} {i j : Nat} (hi : i < l.length) (hj : j < l.length) : bitT (indT adj l) i j = decide (l.getD j 0 ∈ adj.getD (l.getD i 0).toNat []) := by
  unfold bitT indT
  simp [List.getD, hi, hj]

theorem getI_lt {α : Type} {xs : List α} {i : Int} (h0 : 0 ≤ i) (h : i.toNat < xs.length) : getI xs i = some xs[i.toNat] := by
  unfold getI; rw [if_pos h0, List.getElem?_eq_getElem h]

theorem tab_get {adj : List (List Int)} {x y : Int} (hx : 0 ≤ x ∧ x < adj.length) (hy : 0 ≤ y ∧ y < adj.length) : ∃ r, getI (tabT adj) x = some r ∧ getI r y = some (decide (y ∈ adj.getD x.toNat [])) := by
  have h1 : x.toNat < adj.length := by omega
  have h2 : y.toNat < adj.length := by omega
  refine ⟨(List.range adj.length).map fun (w : Nat) => decide ((w : Int) ∈ adj[x.toNat]), ?_, ?_⟩
  · unfold getI; rw [if_pos hx.1, tabT_row h1]
  · unfold getI; rw [if_pos hy.1, List.getElem?_map, List.getElem?_range h2, List.getD, List.getElem?_eq_getElem h1]
    simp only [Option.map_some, Option.getD_some, Int.toNat_of_nonneg hy.1]

theorem Induced_eq {adj : List (List Int)} {l : List Int} (hV : Valid adj) (hc : ∀ l ∈ adj, l.length < 4611686018427387904) (hn : adj.length ≤ 200) (hl : ∀ x ∈ l, 0 ≤ x ∧ x < (adj.length : Int)) (hd : l.Nodup) (hll : l.length ≤ 400) :
    d_sparseref12q_Induced ((adj, ()), l, ()) = some ((fromT (indT adj l), ()), 0, ()) := by
  classical
  rw [← Ok.eq_iff]
  unfold d_sparseref12q_Induced
  have hchk : chk adj = 0 := by unfold chk; rw [if_neg (by omega), if_pos hV]
  have e1 : decide (∀ x ∈ l, 0 ≤ x ∧ x < (adj.length : Int)) = true := decide_eq_true hl
  have e2 : decide (¬ l.Nodup) = false := decide_eq_false (fun h => h hd)
  simp only [refCheck_eq adj hc, hchk, Range_eq l _ (by omega), e1, Twice_eq l (by omega), e2, Table_eq hc hn (fun v hv => (hV.asc v hv).2), empty_eq l.length (by omega), Option.bind_some, bne_self_eq_false, cond_false, Bool.not_true]
  simp only [Ok.bind_iff]
  refine Ok.mono (P := fun q => q.2.1 = indT adj l) ?_ ?_
  · refine Ok.for (i0 := 0) l.length (fun i t => t.2.1 = (List.range l.length).map fun (v : Nat) => if v < i then (indT adj l).getD v [] else List.replicate l.length false) rfl ?_ (Nat.zero_le _) ?_ ?_
    · apply List.ext_getElem?
      intro k
      simp [List.getElem?_replicate]
      split <;> simp_all
    · rintro i ⟨s, out, _⟩ _ hi ho
      simp only at ho
      simp only [Ok.bif_iff, Ok.bind_iff]
      refine ⟨fun _ => ?_, fun hf => by simp at hf; omega⟩
      refine Ok.mono (P := fun q => q.2.1 = (List.range l.length).map fun (v : Nat) => if v < i + 1 then (indT adj l).getD v [] else List.replicate l.length false) ?_ (by rintro ⟨s, o, _⟩ h; simp only [Ok.some_iff]; exact ⟨wrap_succ (by omega), h⟩)
      refine Ok.for (i0 := 0) l.length (fun j t => t.2.1 = out.set i ((List.range l.length).map fun (w : Nat) => if w < j then bitT (indT adj l) i w else false)) rfl ?_ (Nat.zero_le _) ?_ ?_
      · show out = _
        apply List.ext_getElem?
        intro u
        rw [List.getElem?_set]
        by_cases hu : i = u
        · subst hu
          rw [if_pos rfl, ho]
          simp [hi, List.map_const']
        · rw [if_neg hu]
      · rintro j ⟨s', o, _⟩ _ hj ho'
        simp only at ho'
        have hxi := hl _ (List.getElem_mem hi)
        have hxj := hl _ (List.getElem_mem hj)
        obtain ⟨r, hr1, hr2⟩ := tab_get hxi hxj
        have hol : o.length = l.length := by rw [ho', ho]; simp
        have hio : i < o.length := by omega
        have hrow : o[i] = (List.range l.length).map fun (w : Nat) => if w < j then bitT (indT adj l) i w else false := by
          have : o[i]? = some ((List.range l.length).map fun (w : Nat) => if w < j then bitT (indT adj l) i w else false) := by
            rw [ho', List.getElem?_set_self (by rw [ho]; simpa using hi)]
          rw [List.getElem?_eq_getElem hio] at this
          exact Option.some.inj this
        have hgi : getI l (i : Int) = some l[i] := getN_some (List.getElem?_eq_getElem hi)
        have hgj : getI l (j : Int) = some l[j] := getN_some (List.getElem?_eq_getElem hj)
        simp only [Ok.bif_iff, Ok.bind_iff, Ok.idxN_iff, hgi, hgj, hr1, hr2, Ok.some_iff, Ok.atO_iff, Ok.map_iff, Int.toNat_natCast]
        refine ⟨fun _ => ⟨⟨by omega, hio⟩, hio, ⟨by omega, by rw [hrow]; simpa using hj⟩, hio, by rw [hrow]; simpa using hj, wrap_succ (by omega), ?_⟩, fun hf => by simp at hf; omega⟩
        rw [hrow, ho', List.set_set]
        congr 1
        apply List.ext_getElem?
        intro u
        rw [List.getElem?_set, List.getElem?_map, List.getElem?_map]
        rcases Nat.lt_or_ge u l.length with h | h
        · rw [List.getElem?_range h]
          simp only [Option.map_some, List.length_map, List.length_range]
          by_cases hu : j = u
          · subst hu
            have d1 : l.getD j 0 = l[j] := by simp [List.getD, hj]
            have d2 : l.getD i 0 = l[i] := by simp [List.getD, hi]
            rw [if_pos rfl, if_pos h, if_pos (by omega), bit_indT hi hj, d1, d2]
          · rw [if_neg hu]
            by_cases h2 : u < j
            · rw [if_pos h2, if_pos (by omega)]
            · rw [if_neg h2, if_neg (by omega)]
        · rw [if_neg (by omega), List.getElem?_eq_none (by simpa using h)]; rfl
      · rintro ⟨s', o, _⟩ ho'
        simp only at ho'
        simp only [Ok.bif_iff, Ok.some_iff]
        refine ⟨fun hf => by simp at hf, fun _ => ?_⟩
        rw [ho', ho]
        apply List.ext_getElem?
        intro u
        rw [List.getElem?_set, List.getElem?_map, List.getElem?_map]
        rcases Nat.lt_or_ge u l.length with h | h
        · rw [List.getElem?_range h]
          simp only [Option.map_some, List.length_map, List.length_range]
          by_cases hu : i = u
          · subst hu
            rw [if_pos rfl, if_pos h, if_pos (by omega)]
            congr 1
            have : (indT adj l).getD i [] = (List.range l.length).map fun (w : Nat) => bitT (indT adj l) i w := by
              have h1 : (indT adj l).getD i [] = (List.range l.length).map fun (j : Nat) => decide (l.getD j 0 ∈ adj.getD (l.getD i 0).toNat []) := by simp [indT, List.getD, hi]
              rw [h1]
              refine List.map_congr_left fun w hw => ?_
              rw [bit_indT hi (List.mem_range.1 hw)]
            rw [this]
            refine List.map_congr_left fun w hw => ?_
            rw [if_pos (List.mem_range.1 hw)]
          · rw [if_neg hu]
            by_cases h2 : u < i
            · rw [if_pos h2, if_pos (by omega)]
            · rw [if_neg h2, if_neg (by omega)]
        · rw [if_neg (by omega), List.getElem?_eq_none (by simpa using h)]; rfl
    · rintro ⟨s, out, _⟩ ho
      simp only at ho
      simp only [Ok.bif_iff, Ok.some_iff]
      refine ⟨fun hf => by simp at hf, fun _ => ?_⟩
      rw [ho]
      apply List.ext_getElem?
      intro u
      rw [List.getElem?_map]
      rcases Nat.lt_or_ge u l.length with h | h
      · rw [List.getElem?_range h]
        simp only [Option.map_some]
        rw [if_pos h, List.getD, List.getElem?_eq_getElem (by rw [indT_length]; exact h)]; rfl
      · rw [List.getElem?_eq_none (by simpa using h), List.getElem?_eq_none (by rw [indT_length]; exact h)]; rfl
  · rintro ⟨s, out, _⟩ ho
    simp only at ho
    subst ho
    rw [FromTable_eq]
    · simp only [Ok.some_iff]
    · intro r hr
      unfold indT at hr
      simp only [List.mem_map] at hr
      obtain ⟨i, _, rfl⟩ := hr
      simp [indT]
    · rw [indT_length]; omega

/-- Neighbours in the induced graph. -/
theorem Nb_ind {adj : List (List Int)} {l : List Int} (hV : Valid adj) (hl : ∀ x ∈ l, 0 ≤ x ∧ x < (adj.length : Int)) (hd : l.Nodup) {a b : Nat} : Nb (fromT (indT adj l)) a b ↔ ∃ (ha : a < l.length) (hb : b < l.length), Nb adj (l[a]).toNat (l[b]).toNat := by
  unfold Nb
  constructor
  · rintro ⟨h1, h2⟩
    rw [fromT_length, indT_length] at h1
    simp only [fromT, List.getElem_map, List.getElem_range, mem_lineT, indT_length] at h2
    obtain ⟨hb, hne, h3⟩ := h2
    refine ⟨h1, hb, ?_⟩
    have ra := hl _ (List.getElem_mem h1)
    have rb := hl _ (List.getElem_mem hb)
    have ga : adj.getD (l[a]).toNat [] = adj[(l[a]).toNat]'(by omega) := by rw [List.getD, List.getElem?_eq_getElem (by omega)]; rfl
    have gb : adj.getD (l[b]).toNat [] = adj[(l[b]).toNat]'(by omega) := by rw [List.getD, List.getElem?_eq_getElem (by omega)]; rfl
    refine ⟨by omega, ?_⟩
    rw [Int.toNat_of_nonneg rb.1]
    rw [Bool.or_eq_true, bit_indT h1 hb, bit_indT hb h1] at h3
    simp only [List.getD, List.getElem?_eq_getElem h1, List.getElem?_eq_getElem hb, Option.getD_some, decide_eq_true_eq] at h3
    simp only [List.getD] at ga gb
    rcases h3 with h3 | h3
    · rw [ga] at h3; exact h3
    · rw [gb] at h3
      have := hV.sym (l[b]).toNat (by omega) (l[a]).toNat (by omega) (by rw [Int.toNat_of_nonneg ra.1]; exact h3)
      rw [Int.toNat_of_nonneg rb.1] at this
      exact this
  · rintro ⟨ha, hb, h1, h2⟩
    refine ⟨by rw [fromT_length, indT_length]; exact ha, ?_⟩
    simp only [fromT, List.getElem_map, List.getElem_range, mem_lineT, indT_length]
    have ra := hl _ (List.getElem_mem ha)
    have rb := hl _ (List.getElem_mem hb)
    rw [Int.toNat_of_nonneg rb.1] at h2
    refine ⟨hb, fun e => ?_, ?_⟩
    · subst e
      have := hV.irr (l[a]).toNat h1
      rw [Int.toNat_of_nonneg ra.1] at this
      exact this h2
    · rw [Bool.or_eq_true, bit_indT ha hb]
      left
      simp only [List.getD, List.getElem?_eq_getElem ha, List.getElem?_eq_getElem hb, Option.getD_some, decide_eq_true_eq, List.getElem?_eq_getElem h1]
      exact h2
end Go.Fw
