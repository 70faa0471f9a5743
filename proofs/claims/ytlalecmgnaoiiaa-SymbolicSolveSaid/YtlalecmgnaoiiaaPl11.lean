/-
  The plain laws, part 11: counts and rows; the law SymbolicRows on the pure programs.
-/
import Derived.Test.YtlalecmgnaoiiaaPl10
set_option linter.unusedSimpArgs false
set_option linter.unusedVariables false
namespace Go.Fw

theorem sum_addq (l : List Nat) (f g : Nat → Nat) : (l.map fun x => f x + g x).sum = (l.map f).sum + (l.map g).sum := by
  induction l with
  | nil => rfl
  | cons a l ih => simp only [List.map_cons, List.sum_cons, ih]; omega
theorem sum_ite (l : List Nat) (p : Nat → Prop) [DecidablePred p] : (l.map fun x => if p x then 1 else 0).sum = (l.filter fun x => decide (p x)).length := by
  induction l with
  | nil => rfl
  | cons a l ih =>
    simp only [List.map_cons, List.sum_cons, ih, List.filter_cons]
    by_cases h : p a
    · simp [h]; omega
    · simp [h]
theorem filter_range_le (p : Nat → Prop) [DecidablePred p] (k d : Nat) : ((List.range (k + 1 + d)).filter fun j => decide (j ≤ k ∧ p j)) = (List.range (k + 1)).filter fun j => decide (p j) := by
  induction d with
  | zero =>
    refine List.filter_congr fun x hx => ?_
    have := List.mem_range.1 hx
    have h : x ≤ k := by omega
    simp [h]
  | succ d ih =>
    rw [← Nat.add_assoc, List.range_succ, List.filter_append, ih]
    have h : ¬ (k + 1 + d ≤ k) := by omega
    simp [h]

open Classical in
theorem sums_eq (adj : List (List Int)) : ∀ k, k ≤ adj.length → ((List.range adj.length).map fun j => (colK adj j k).length).sum = ((List.range k).map fun i => (rowV adj i).length).sum := by
  intro k
  induction k with
  | zero =>
    intro _
    have : ∀ l : List Nat, (l.map fun j => (colK adj j 0).length).sum = 0 := by
      intro l
      induction l with
      | nil => rfl
      | cons a l ih => rw [List.map_cons, List.sum_cons, ih]; rfl
    exact this _
  | succ k ih =>
    intro hk
    have h1 : (fun j => (colK adj j (k + 1)).length) = fun j => (colK adj j k).length + if j ≤ k ∧ InCol adj j k then 1 else 0 := by
      funext j
      rw [colK_succ, List.length_append]
      split <;> rfl
    rw [h1, sum_addq, ih (by omega), List.range_succ (n := k), List.map_append, List.sum_append, sum_ite]
    obtain ⟨d, hd⟩ : ∃ d, adj.length = k + 1 + d := ⟨adj.length - (k + 1), by omega⟩
    rw [hd, filter_range_le]
    simp [rowV]

open Classical in
theorem Counts_ok {adj : List (List Int)} (hV : Valid adj) (hc : ∀ l ∈ adj, l.length < 4611686018427387904) (hn : adj.length ≤ 200) :
    d_symbolic_Counts ((adj, ()), ()) = some ((List.range adj.length).map (fun j => ((colV adj j).length : Int)), 0, ()) := by
  rw [← Ok.eq_iff]
  unfold d_symbolic_Counts
  have hlim : lim = 4294967296 := rfl
  simp only [Ok.bind_iff]
  refine (Parent_ok adj hc hn hV).mono ?_
  rintro ⟨par, e, _⟩ ⟨he, hF⟩
  simp only at he hF
  subst he
  have hpl := hF.len
  simp only [Ok.bif_iff, Ok.bind_iff, Ok.some_iff, Ok.madeO_iff, Int.toNat_natCast]
  refine ⟨fun h => by simp at h, fun _ => ⟨⟨by omega, by omega, by omega⟩, ?_⟩⟩
  rw [hpl]
  refine Ok.for (i0 := 0) adj.length (fun i t => t.1 = (List.range adj.length).map fun j => ((colK adj j i).length : Int)) rfl ?_ (Nat.zero_le _) ?_ ?_
  · apply List.ext_getElem?
    intro k
    simp [colK, List.getElem?_replicate]
    split <;> simp_all
  · rintro i ⟨out, _⟩ _ hi ho
    simp only at ho
    simp only [Ok.bif_iff, Ok.bind_iff, row_eq hV hc hF hi hn, Ok.some_iff]
    refine ⟨fun _ => ?_, fun hf => by simp at hf; omega⟩
    have hrl := rowV_length adj i
    refine Ok.mono (P := fun q => q.1 = (List.range adj.length).map fun j => ((colK adj j (i + 1)).length : Int)) ?_ ?_
    · refine Ok.for (i0 := 0) (rowV adj i).length (fun k t => t.2.1 = rowV adj i ∧ t.1 = (List.range adj.length).map fun j => ((colK adj j i).length : Int) + (if (j : Int) ∈ (rowV adj i).take k then 1 else 0)) rfl ?_ (Nat.zero_le _) ?_ ?_
      · refine ⟨rfl, ?_⟩
        rw [ho]
        simp
      · rintro k ⟨o, r, _⟩ _ hk ⟨hr, ho'⟩
        simp only at hr ho'
        subst hr
        obtain ⟨j, hj, hji, _⟩ := mem_rowV' (List.getElem_mem hk)
        have hol : o.length = adj.length := by rw [ho']; simp
        have hjo : j < o.length := by omega
        have hnew : (j : Int) ∉ (rowV adj i).take k := fun hm => by
          obtain ⟨m, hm1, hm2⟩ := List.mem_iff_getElem.1 hm
          simp only [List.length_take] at hm1
          simp only [List.getElem_take] at hm2
          have := (List.pairwise_iff_getElem.1 (rowV_asc adj i)) m k (by omega) hk (by omega)
          omega
        have hoj : o[j] = ((colK adj j i).length : Int) := by
          have : o[j]? = some ((colK adj j i).length : Int) := by
            rw [ho', List.getElem?_map, List.getElem?_range (by omega)]
            simp only [Option.map_some]
            rw [if_neg hnew, Int.add_zero]
          rw [List.getElem?_eq_getElem hjo] at this
          exact Option.some.inj this
        have hcl := colK_length adj j i
        simp only [Ok.bif_iff, Ok.bind_iff, Ok.idxN_iff, Ok.atO_iff, Ok.some_iff, Ok.limO_iff, Int.toNat_natCast, hj, Nat.beq_refl, Bool.and_self, Ok.none_iff]
        refine ⟨fun _ => ⟨⟨by omega, hk⟩, hk, ⟨by omega, hjo⟩, hjo, ⟨by omega, hjo⟩, hjo, wrap_succ (by omega), trivial, ?_⟩, fun hf => by simp at hf; omega⟩
        rw [hoj, wrap_succ (by omega)]
        apply List.ext_getElem?
        intro u
        rw [List.getElem?_set]
        by_cases hu : j = u
        · subst hu
          rw [if_pos rfl, if_pos hjo, List.getElem?_map, List.getElem?_range (show j < adj.length by omega)]
          simp only [Option.map_some]
          rw [if_pos]
          · simp
          rw [← take_snoc hk, hj]; simp
        · rw [if_neg hu, ho', List.getElem?_map, List.getElem?_map]
          rcases Nat.lt_or_ge u adj.length with h | h
          · rw [List.getElem?_range h]
            simp only [Option.map_some]
            congr 2
            rw [← take_snoc hk, hj]
            have : ((u : Int) = (j : Int)) ↔ False := iff_of_false (by omega) id
            simp only [List.mem_append, List.mem_singleton, this, or_false]
          · rw [List.getElem?_eq_none (by simpa using h)]; rfl
      · rintro ⟨o, r, _⟩ ⟨hr, ho'⟩
        simp only at hr ho'
        subst hr
        simp only [Ok.bif_iff, Ok.some_iff]
        refine ⟨fun hf => by simp at hf, fun _ => ?_⟩
        rw [ho', List.take_length]
        refine List.map_congr_left fun j _ => ?_
        rw [colK_succ, List.length_append]
        by_cases h : j ≤ i ∧ InCol adj j i
        · rw [if_pos h, if_pos (mem_rowV.2 h)]; rfl
        · rw [if_neg h, if_neg (fun hm => h (mem_rowV.1 hm))]; rfl
    · rintro ⟨o, _⟩ ho'
      exact ⟨wrap_succ (by omega), ho'⟩
  · rintro ⟨out, _⟩ ho
    simp only at ho
    simp only [Ok.bif_iff, Ok.some_iff]
    refine ⟨fun hf => by simp at hf, fun _ => ?_⟩
    rw [ho]; rfl

theorem Row_ok {adj : List (List Int)} (hV : Valid adj) (hc : ∀ l ∈ adj, l.length < 4611686018427387904) (hn : adj.length ≤ 200) {i : Nat} (hi : i < adj.length) :
    d_symbolic_Row ((adj, ()), (i : Int), ()) = some (rowV adj i, 0, ()) := by
  rw [← Ok.eq_iff]
  unfold d_symbolic_Row
  simp only [Ok.bind_iff]
  refine (Parent_ok adj hc hn hV).mono ?_
  rintro ⟨par, e, _⟩ ⟨he, hF⟩
  simp only at he hF
  subst he
  have hpl := hF.len
  have e1 : decide ((i : Int) < 0) = false := by simp
  have e2 : decide ((i : Int) ≥ (par.length : Int)) = false := by simp; omega
  simp only [e1, e2, bne_self_eq_false, beq_self_eq_true, cond_true, cond_false, Option.bind_some, Ok.some_iff, Ok.bind_iff, row_eq hV hc hF hi hn]

theorem SymbolicRows_true (n : Int) (l : List Int) : d_sparselaw20q_SymbolicRows (n, l, ()) = some (true, ()) := by
  classical
  rw [← Ok.eq_iff]
  unfold d_sparselaw20q_SymbolicRows
  simp only [Ok.bif_iff, Ok.bind_iff, Ok.some_iff, awake20, Place_eq n 13 (by omega) (by omega)]
  refine ⟨fun _ => trivial, fun hl => ?_⟩
  have hl : l.length ≤ 80 := by simp at hl; omega
  have hp := placeV_lt n 13 (by omega)
  obtain ⟨m, hm⟩ : ∃ m : Nat, placeV n 13 = (m : Int) := ⟨(placeV n 13).toNat, by omega⟩
  rw [hm]
  refine (Graph_ok m l (by omega) (by omega)).mono ?_
  rintro ⟨⟨adj, _⟩, _⟩ ⟨hal, hV, hrow⟩
  simp only at hal hV hrow
  have hc : ∀ l ∈ adj, l.length < 4611686018427387904 := fun l h => by have := hrow l h; omega
  simp only [Columns_ok hV hc (by omega), Counts_ok hV hc (by omega), Ok.some_iff]
  have f1 : ((((List.range adj.length).map (colV adj)).length : Nat) : Int) = (m : Int) := by simp; omega
  have f2 : ((((List.range adj.length).map fun j => ((colV adj j).length : Int)).length : Nat) : Int) = (m : Int) := by simp; omega
  simp only [f1, f2, bne_self_eq_false, beq_self_eq_true]
  refine ⟨fun _ => ⟨fun _ => ⟨fun _ => ⟨fun h => (by cases h), fun _ => ?_⟩, fun h => (by cases h)⟩, fun h => (by cases h)⟩, fun h => (by cases h)⟩
  have hC : ∀ i : Nat, i < adj.length → getI ((List.range adj.length).map (colV adj)) (i : Int) = some (colV adj i) := fun i hi => getN_some (by simp [hi])
  have hK : ∀ i : Nat, i < adj.length → getI ((List.range adj.length).map fun j => ((colV adj j).length : Int)) (i : Int) = some ((colV adj i).length : Int) := fun i hi => getN_some (by simp [hi])
  generalize (List.range adj.length).map (colV adj) = C at hC
  generalize ((List.range adj.length).map fun j => ((colV adj j).length : Int)) = K at hK
  have hb1 : ∀ i, (colV adj i).length ≤ 12 := fun i => by have := colK_length adj i adj.length; unfold colV; omega
  have hb2 : ∀ i, i < m → (rowV adj i).length ≤ 12 := fun i hi => by have := rowV_length adj i; omega
  refine Ok.mono (P := fun q => q = .inl (0, ())) ?_ (by rintro _ rfl; simp only [Ok.bif_iff, Ok.bind_iff, Ok.some_iff, awake20]; exact ⟨(fun _ => trivial), (fun h => by cases h)⟩)
  refine Ok.count (fun s => s.2.1) m (fun i s => s.2.2.1 = (adj, ()) ∧ s.1 = ((((List.range i).map fun k => (colV adj k).length).sum : Nat) : Int) - ((((List.range i).map fun k => (rowV adj k).length).sum : Nat) : Int) ∧ ((List.range i).map fun k => (colV adj k).length).sum ≤ 12 * i ∧ ((List.range i).map fun k => (rowV adj k).length).sum ≤ 12 * i) (i0 := 0) rfl ⟨rfl, rfl, Nat.le_refl _, Nat.le_refl _⟩ (Nat.zero_le _) ?_ ?_
  · rintro i ⟨sum, j, g, _⟩ _ hi e ⟨hg, hs, hs1, hs2⟩
    simp only at e hg hs
    subst e hg
    have g1 := hb1 i
    have g2 := hb2 i hi
    have e1 : decide (AscIn (rowV adj i) 0) = decide (AscIn (rowV adj i) 0) := rfl
    simp only [Ok.bif_iff (b := decide _)]
    refine ⟨fun _ => ?_, fun hf => by simp at hf; omega⟩
    have e2 : (decide ((rowV adj i).Pairwise (· < ·))) = true := decide_eq_true (rowV_asc adj i)
    simp only [Row_ok hV hc (show adj.length ≤ 200 by omega) (show i < adj.length by omega), Option.bind_some, hC i (by omega), hK i (by omega), Ascending_eq (rowV adj i) (by omega), e2,
      bne_self_eq_false, beq_self_eq_true, cond_true, cond_false, Bool.not_true]
    simp only [Ok.bind_iff]
    refine Ok.mono (P := fun q => q = .inl ((adj, ()), ())) ?_ ?_
    · refine Ok.for (i0 := 0) m (fun _ t => t.1 = (adj, ())) rfl rfl (Nat.zero_le _) ?_ ?_
      · rintro j ⟨g, _⟩ _ hj hg
        simp only at hg
        subst hg
        have e3 : decide ((j : Int) ∈ rowV adj i) = decide ((i : Int) ∈ colV adj j) := by
          rw [decide_eq_decide, mem_rowV, mem_colV]
          exact ⟨fun h => ⟨by omega, h.2⟩, fun h => ⟨h.2.le, h.2⟩⟩
        have g3 := hb1 j
        simp only [Ok.bif_iff, Ok.bind_iff, In_eq (rowV adj i) _ (by omega), In_eq (colV adj j) _ (by omega), hC j (by omega), Ok.some_iff, e3, beq_self_eq_true, Bool.not_true]
        exact ⟨fun _ => ⟨(fun h => by cases h), fun _ => ⟨wrap_succ (by omega), trivial⟩⟩, fun hf => by simp at hf; omega⟩
      · rintro ⟨g, _⟩ hg
        simp only at hg
        subst hg
        simp only [Ok.bif_iff, Ok.some_iff]
        exact ⟨fun hf => by simp at hf, fun _ => trivial⟩
    · rintro _ rfl
      simp only [Ok.some_iff]
      refine ⟨wrap_succ (by omega), trivial, ?_, ?_, ?_⟩
      · rw [wrap64 (x := sum + _) (by omega) (by omega), wrap64 (by omega) (by omega), List.range_succ, List.map_append, List.map_append, List.sum_append, List.sum_append]
        simp only [List.map_cons, List.map_nil, List.sum_cons, List.sum_nil]
        omega
      · rw [List.range_succ, List.map_append, List.sum_append]
        simp only [List.map_cons, List.map_nil, List.sum_cons, List.sum_nil]
        omega
      · rw [List.range_succ, List.map_append, List.sum_append]
        simp only [List.map_cons, List.map_nil, List.sum_cons, List.sum_nil]
        omega
  · rintro ⟨sum, j, g, _⟩ e ⟨hg, hs, hs1, hs2⟩
    simp only at e hg hs
    subst e hg
    simp only [Ok.bif_iff, Ok.some_iff]
    refine ⟨fun hf => by simp at hf, fun _ => ?_⟩
    have := sums_eq adj adj.length (Nat.le_refl _)
    rw [hal] at this
    have h0 : sum = 0 := by
      rw [hs]
      unfold colV
      rw [hal, this]; omega
    rw [h0]
end Go.Fw
