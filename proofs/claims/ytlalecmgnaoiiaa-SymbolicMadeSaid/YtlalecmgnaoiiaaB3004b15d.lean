/-
  Parts of the proof: Pl44, Pl45, Pl46, Pl47: the framework (Fw), pure forms (Dn), plain laws (Pl, Th), calls of functions (Ok).
-/
import Derived.Test.YtlalecmgnaoiiaaB3982755d

set_option linter.all false
section
namespace Go.Fw
set_option linter.unusedSimpArgs false
set_option linter.unusedVariables false
open Go
section
variable {adj : List (List Int)} (hc : ∀ l ∈ adj, l.length < 4611686018427387904)
include hc
open Classical in
theorem columns_any : d_symbolic_Columns ((adj, ()), ()) = some (if chk adj = 0 then fT adj.length (colV adj) else [], chk adj, ()) := by
  by_cases h : chk adj = 0
  · obtain ⟨hn, hV⟩ := chk_zero.1 h
    rw [Columns_ok hV hc hn, if_pos h, h]; rfl
  · unfold d_symbolic_Columns
    simp only [Parent_bad hc h, Option.bind_some, bneI, decF h, Bool.not_false, cond_true, if_neg h]
open Classical in
theorem refColumns_any : d_sparseref20q_Columns ((adj, ()), ()) = some (if chk adj = 0 then fT adj.length (colV adj) else [], chk adj, ()) := by
  by_cases h : chk adj = 0
  · obtain ⟨hn, hV⟩ := chk_zero.1 h
    rw [refColumns_eq hV hc hn, if_pos h, h]; rfl
  · unfold d_sparseref20q_Columns
    simp only [refCheck_eq adj hc, Option.bind_some, bneI, decF h, Bool.not_false, cond_true, if_neg h]
open Classical in
theorem counts_any : d_symbolic_Counts ((adj, ()), ()) = some (if chk adj = 0 then fT adj.length (fun j => ((colV adj j).length : Int)) else [], chk adj, ()) := by
  by_cases h : chk adj = 0
  · obtain ⟨hn, hV⟩ := chk_zero.1 h
    rw [Counts_ok hV hc hn, if_pos h, h]; rfl
  · unfold d_symbolic_Counts
    simp only [Parent_bad hc h, Option.bind_some, bneI, decF h, Bool.not_false, cond_true, if_neg h]
open Classical in
theorem refCounts_any : d_sparseref20q_Counts ((adj, ()), ()) = some (if chk adj = 0 then fT adj.length (fun j => ((colV adj j).length : Int)) else [], chk adj, ()) := by
  by_cases h : chk adj = 0
  · obtain ⟨hn, hV⟩ := chk_zero.1 h
    rw [refCounts_eq hV hn, if_pos h, h]
  · unfold d_sparseref20q_Counts
    simp only [refColumns_any hc, Option.bind_some, bneI, decF h, Bool.not_false, cond_true, if_neg h]
/-- The columns that contain i, and the error. -/
noncomputable def rowA (adj : List (List Int)) (i : Int) : List Int × Int := open Classical in
  if chk adj ≠ 0 then ([], chk adj) else if 0 ≤ i ∧ i < (adj.length : Int) then (rowV adj i.toNat, 0) else ([], 3)
theorem row_any (i : Int) : d_symbolic_Row ((adj, ()), i, ()) = some ((rowA adj i).1, (rowA adj i).2, ()) := by
  classical
  unfold rowA
  by_cases h : chk adj = 0
  · obtain ⟨hn, hV⟩ := chk_zero.1 h
    rw [if_neg (not_not_intro h)]
    by_cases hi : 0 ≤ i ∧ i < (adj.length : Int)
    · rw [if_pos hi]
      obtain ⟨k, rfl⟩ : ∃ k : Nat, i = (k : Int) := ⟨i.toNat, by omega⟩
      rw [Row_ok hV hc hn (by omega)]
      simp
    · rw [if_neg hi]
      unfold d_symbolic_Row
      simp only [Parent_eq hV hn, Option.bind_some, bneI, decide_true, Bool.not_true, cond_false, fT_length, cond_dec_beqF]
      by_cases h0 : i < 0
      · rw [if_pos h0]; rfl
      · rw [if_neg h0, decT (show i ≥ (adj.length : Int) by omega)]; rfl
  · rw [if_pos h]
    unfold d_symbolic_Row
    simp only [Parent_bad hc h, Option.bind_some, bneI, decF h, Bool.not_false, cond_true]
theorem refRow_any (i : Int) : d_sparseref20q_Row ((adj, ()), i, ()) = some ((rowA adj i).1, (rowA adj i).2, ()) := by
  classical
  unfold rowA d_sparseref20q_Row
  simp only [refColumns_any hc, Option.bind_some, bneI]
  by_cases h : chk adj = 0
  · obtain ⟨hn, hV⟩ := chk_zero.1 h
    rw [if_neg (not_not_intro h), decT h, if_pos h]
    simp only [Bool.not_true, cond_false, fT_length, cond_dec_beqF]
    by_cases hi : 0 ≤ i ∧ i < (adj.length : Int)
    · rw [if_pos hi, if_neg (by omega)]
      obtain ⟨k, rfl⟩ : ∃ k : Nat, i = (k : Int) := ⟨i.toNat, by omega⟩
      rw [decF (show ¬ ((k : Int) ≥ (adj.length : Int)) by omega)]
      simp only [Option.bind_some, cond_false]
      have hrow : rowV adj k = natL ((List.range adj.length).filter fun j => decide ((k : Int) ∈ colV adj j)) := by
        refine sorted_ext (rowV_asc adj k) (sorted_filter _ _) (fun x => ?_)
        constructor
        · intro hx
          obtain ⟨j, rfl, h1, h2⟩ := mem_rowV' hx
          refine List.mem_map.2 ⟨j, List.mem_filter.2 ⟨List.mem_range.2 (by omega), ?_⟩, rfl⟩
          exact decide_eq_true (mem_colV.2 ⟨by omega, h2⟩)
        · intro hx
          obtain ⟨j, hj, rfl⟩ := List.mem_map.1 hx
          obtain ⟨hj1, hj2⟩ := List.mem_filter.1 hj
          obtain ⟨h3, h4⟩ := mem_colV.1 (of_decide_eq_true hj2)
          exact mem_rowV.2 ⟨h4.le, h4⟩
      rw [Int.toNat_natCast, hrow]
      refine bind_eq (loop_for (r := (natL ((List.range adj.length).filter fun j => decide ((k : Int) ∈ colV adj j)), ())) adj.length (fun n => (natL ((List.range n).filter fun j => decide ((k : Int) ∈ colV adj j)), ())) 0 rfl rfl (Nat.zero_le _) ?_ ?_) rfl
      · intro j _ hj
        have hlen : (natL ((List.range j).filter fun j => decide ((k : Int) ∈ colV adj j))).length ≤ j := by rw [natL_length]; exact Nat.le_trans (List.length_filter_le _ _) (by simp)
        have hs : natL ((List.range (j + 1)).filter fun j => decide ((k : Int) ∈ colV adj j)) = if (k : Int) ∈ colV adj j then natL ((List.range j).filter fun j => decide ((k : Int) ∈ colV adj j)) ++ [(j : Int)] else natL ((List.range j).filter fun j => decide ((k : Int) ∈ colV adj j)) := by
          rw [List.range_succ, List.filter_append, natL_append]
          by_cases h : (k : Int) ∈ colV adj j <;> simp [h, natL]
        have hcl : (colV adj j).length < 4611686018427387904 := by have := colK_length adj j adj.length; unfold colV; omega
        simp (disch := omega) only [cond_dec, if_pos, getI_fT, Option.bind_some, In_eq _ _ hcl, wrap_inc]
        rw [hs]
        by_cases h : (k : Int) ∈ colV adj j
        · rw [if_pos h, if_pos h, limO_ok (by simp only [List.length_singleton]; omega)]; rfl
        · rw [if_neg h, if_neg h]; rfl
      · simp (disch := omega) only [cond_dec, if_neg]
    · rw [if_neg hi]
      by_cases h0 : i < 0
      · rw [if_pos h0]; rfl
      · rw [if_neg h0, decT (show i ≥ (adj.length : Int) by omega)]; rfl
  · rw [if_pos h, decF h]
    rfl
end
theorem sum_loop (n : Nat) (c : Nat → Nat) (hn : n ≤ 200) (hb : ∀ j, c j ≤ 200) :
    loop (σ := (Int × Int × Unit)) (ρ := (Int × Unit)) (fun (sum_7, s_8, _) =>
      (bif (decide (s_8 < (((fT n (fun j => (c j : Int))).length : Nat) : Int))) then (
      (getI (fT n (fun j => (c j : Int))) s_8).bind fun y9 =>
      some (.inl ((IntKind.i64.wrap (sum_7 + y9)), (IntKind.i64.wrap (s_8 + ((1) : Int))), ()))) else (
      some (.inr (sum_7, ()))))) (((0) : Int), ((0) : Int), ()) = some (((((List.range n).map c).sum : Nat) : Int), ()) := by
  have hsum : ∀ k, ((List.range k).map c).sum ≤ 200 * k := fun k => by
    induction k with
    | zero => simp
    | succ k ih => rw [List.range_succ, List.map_append, List.sum_append]; have := hb k; simp; omega
  rw [← Ok.eq_iff]
  refine Ok.count (fun s => s.2.1) n (fun i s => s = (((((List.range i).map c).sum : Nat) : Int), (i : Int), ())) (i0 := 0) rfl rfl (Nat.zero_le _) ?_ ?_
  · rintro i _ _ hi _ rfl
    have h1 := hsum i
    have h2 := hb i
    simp (disch := omega) only [fT_length, cond_dec, if_pos, getI_fT, Option.bind_some, wrap_inc, wrap_add]
    refine Ok.some_iff.2 ⟨rfl, ?_⟩
    rw [List.range_succ, List.map_append, List.sum_append]
    simp
  · rintro _ _ rfl
    simp (disch := omega) only [fT_length, cond_dec, if_neg]
    exact Ok.some_iff.2 rfl
/-- The number of entries of the factor for an order. -/
noncomputable def fillV (adj : List (List Int)) (o : List Int) : Nat := ((List.range o.length).map fun j => (colV (fromT (indT adj o)) j).length).sum
theorem perm_of {adj : List (List Int)} {o : List Int} (h : permE adj o = 0) : adj.length ≤ 200 ∧ Valid adj ∧ IsPerm o adj.length := by
  classical
  have h0 : chk adj = 0 := by
    by_cases hz : chk adj = 0
    · exact hz
    · unfold permE at h; rw [if_pos hz] at h; exact absurd h hz
  obtain ⟨hn, hV⟩ := chk_zero.1 h0
  refine ⟨hn, hV, ?_⟩
  unfold permE at h
  rw [if_neg (not_not_intro h0)] at h
  by_cases hl : o.length = adj.length
  · rw [if_neg (not_not_intro hl)] at h
    by_cases hp : IsPerm o adj.length
    · exact hp
    · rw [if_neg hp] at h; omega
  · rw [if_pos hl] at h; omega
theorem perm_iff {adj : List (List Int)} {o : List Int} (hn : adj.length ≤ 200) (hV : Valid adj) (hp : IsPerm o adj.length) : permE adj o = 0 := by
  unfold permE
  rw [if_neg (not_not_intro (chk_zero.2 ⟨hn, hV⟩)), if_neg (not_not_intro hp.1), if_pos hp]
theorem ind_facts {adj : List (List Int)} {o : List Int} (h : permE adj o = 0) : (fromT (indT adj o)).length = o.length ∧ o.length ≤ 200 ∧ Valid (fromT (indT adj o)) ∧ chk (fromT (indT adj o)) = 0 ∧ ∀ l ∈ fromT (indT adj o), l.length < 4611686018427387904 := by
  obtain ⟨hn, hV, hp⟩ := perm_of h
  have h1 : (fromT (indT adj o)).length = o.length := by rw [fromT_length, indT_length]
  have h2 : o.length ≤ 200 := by have := hp.1; omega
  have h3 := fromT_valid (indT adj o)
  exact ⟨h1, h2, h3, chk_zero.2 ⟨by omega, h3⟩, h3.hc (by omega)⟩
theorem Fill_eq {adj : List (List Int)} (hc : ∀ l ∈ adj, l.length < 4611686018427387904) (o : List Int) (ho : adj.length ≤ 200 → Valid adj → adj.length ≤ 12) (ho2 : o.length < 4611686018427387904) :
    d_symbolic_Fill ((adj, ()), o, ()) = some (if permE adj o = 0 then ((fillV adj o : Nat) : Int) else 0, permE adj o, ()) := by
  unfold d_symbolic_Fill
  simp only [Relabel_eq hc o ho ho2, Option.bind_some, bneI]
  by_cases h : permE adj o = 0
  · obtain ⟨h1, h2, h3, h4, h5⟩ := ind_facts h
    simp only [if_pos h, Option.bind_some, decide_true, Bool.not_true, cond_false, counts_any h5, if_pos h4]
    rw [sum_loop _ _ (by omega) (fun j => by have := colK_length (fromT (indT adj o)) j (fromT (indT adj o)).length; unfold colV; omega)]
    simp only [Option.bind_some, h1]
    rw [h4, h]
    rfl
  · simp only [if_neg h, Option.bind_some, decF h, Bool.not_false, cond_true]
theorem refFill_eq {adj : List (List Int)} (hc : ∀ l ∈ adj, l.length < 4611686018427387904) (o : List Int) :
    d_sparseref20q_Fill ((adj, ()), o, ()) = some (if permE adj o = 0 then ((fillV adj o : Nat) : Int) else 0, permE adj o, ()) := by
  unfold d_sparseref20q_Fill
  simp only [refRelabel_eq hc o, Option.bind_some, bneI]
  by_cases h : permE adj o = 0
  · obtain ⟨h1, h2, h3, h4, h5⟩ := ind_facts h
    simp only [if_pos h, Option.bind_some, decide_true, Bool.not_true, cond_false, refCounts_any h5, if_pos h4]
    rw [sum_loop _ _ (by omega) (fun j => by have := colK_length (fromT (indT adj o)) j (fromT (indT adj o)).length; unfold colV; omega)]
    simp only [Option.bind_some, h1]
    rw [h]
    rfl
  · simp only [if_neg h, Option.bind_some, decF h, Bool.not_false, cond_true]
theorem small20 (adj : List (List Int)) : Ok (d_sparselaw20q_small ((adj, ()), ())) (fun r => r.1 = true → adj.length ≤ 400 ∧ (adj.length ≤ 200 → adj.length ≤ 12) ∧ ∀ l ∈ adj, l.length ≤ 20) := by
  unfold d_sparselaw20q_small
  refine Ok.bind_of (P := fun q => match q with | .inl _ => adj.length ≤ 400 ∧ (adj.length ≤ 200 → adj.length ≤ 12) | .inr r => r = (false, ())) ?_ ?_
  · simp only [cond_dec, cond_dec_beq, cond_dec_beqF]
    refine Ok.ite (fun h1 => Ok.ite (fun h2 => Ok.some_iff.2 rfl) (fun h2 => Ok.ite (fun h3 => Ok.some_iff.2 rfl) (fun h3 => Ok.some_iff.2 ⟨by omega, fun h => by omega⟩))) (fun h1 => Ok.ite (fun h3 => Ok.some_iff.2 rfl) (fun h3 => Ok.some_iff.2 ⟨by omega, fun h => by omega⟩))
  · rintro (q | q) hq
    · refine Ok.bind_of (P := fun q => match q with | .inl _ => ∀ l ∈ adj, l.length ≤ 20 | .inr r => r = (false, ())) ?_ ?_
      · refine Ok.for adj.length (fun i _ => ∀ k, (h : k < adj.length) → k < i → adj[k].length ≤ 20) (i0 := 0) rfl (fun k _ h => by omega) (Nat.zero_le _) ?_ ?_
        · rintro i ⟨⟩ _ hi hI
          simp (disch := omega) only [cond_dec, if_pos, getN_some (List.getElem?_eq_getElem hi), Option.bind_some, wrap_inc]
          refine Ok.ite (fun h => Ok.some_iff.2 rfl) (fun h => Ok.some_iff.2 ⟨rfl, fun k hk hki => ?_⟩)
          by_cases e : k = i
          · subst e; omega
          · exact hI k hk (by omega)
        · rintro ⟨⟩ hI
          simp (disch := omega) only [cond_dec, if_neg]
          exact Ok.some_iff.2 (fun l hl => by obtain ⟨k, hk, rfl⟩ := List.mem_iff_getElem.1 hl; exact hI k hk hk)
      · rintro (r | r) hr
        · exact Ok.some_iff.2 (fun _ => ⟨hq.1, hq.2, hr⟩)
        · have hr : r = (false, ()) := hr
          subst hr
          exact Ok.some_iff.2 (fun h => by cases h)
    · have hq : q = (false, ()) := hq
      subst hq
      exact Ok.some_iff.2 (fun h => by cases h)
theorem rowA_length (adj : List (List Int)) (i : Int) : (rowA adj i).1.length < 4611686018427387904 := by
  classical
  unfold rowA
  by_cases h : chk adj = 0
  · obtain ⟨hn, hV⟩ := chk_zero.1 h
    rw [if_neg (not_not_intro h)]
    by_cases hi : 0 ≤ i ∧ i < (adj.length : Int)
    · rw [if_pos hi]
      have := rowV_length adj i.toNat
      show (rowV adj i.toNat).length < _
      omega
    · rw [if_neg hi]; show (0 : Nat) < _; omega
  · rw [if_pos h]; show (0 : Nat) < _; omega
theorem SymbolicAny_true (adj : List (List Int)) (i : Int) (o : List Int) : d_sparselaw20q_SymbolicAny ((adj, ()), i, o, ()) = some (true, ()) := by
  classical
  rw [← Ok.eq_iff]
  unfold d_sparselaw20q_SymbolicAny
  refine Ok.bind_of (P := fun q => q = .inr (true, ()) ∨ (q = .inl () ∧ adj.length ≤ 400 ∧ (adj.length ≤ 200 → adj.length ≤ 12) ∧ (∀ l ∈ adj, l.length ≤ 20) ∧ o.length ≤ 20)) ?_ ?_
  · refine Ok.bind_of (P := fun q => q.1 = true ∨ (q.1 = false ∧ adj.length ≤ 400 ∧ (adj.length ≤ 200 → adj.length ≤ 12) ∧ (∀ l ∈ adj, l.length ≤ 20) ∧ o.length ≤ 20)) ?_ ?_
    · refine Ok.bind_of (small20 adj) ?_
      rintro ⟨b, ⟨⟩⟩ hb
      cases b with
      | false => exact Ok.some_iff.2 (.inl rfl)
      | true =>
        obtain ⟨h1, h2, h3⟩ := hb rfl
        simp only [Bool.not_true, show (false == false) = true from rfl, cond_true]
        by_cases h4 : ((o.length : Nat) : Int) > 20
        · exact Ok.some_iff.2 (.inl (decT h4))
        · exact Ok.some_iff.2 (.inr ⟨decF h4, h1, h2, h3, by omega⟩)
    · rintro ⟨b, ⟨⟩⟩ (hb | ⟨hb, h⟩)
      · simp only at hb
        subst hb
        simp only [cond_true, awake20, Option.bind_some]
        exact Ok.some_iff.2 (.inl rfl)
      · simp only at hb
        subst hb
        exact Ok.some_iff.2 (.inr ⟨rfl, h⟩)
  · rintro q (rfl | ⟨rfl, h1, h2, h3, h4⟩)
    · exact Ok.some_iff.2 rfl
    have hlim : lim = 4294967296 := rfl
    have hc : ∀ l ∈ adj, l.length < 4611686018427387904 := fun l hl => by have := h3 l hl; omega
    have t1 : d_sparsekit_TwinGraph ((adj, ()), ()) = some ((adj, ()), ()) := by
      unfold d_sparsekit_TwinGraph
      simp only [TwinLists_eq adj (by omega) (fun l hl => by have := h3 l hl; omega), Option.bind_some]
    have t2 : d_sparsekit_Graph ((adj, ()), (adj, ()), ()) = some (true, ()) := by
      unfold d_sparsekit_Graph
      simp only [Lists_eq adj adj (by omega) hc, Option.bind_some, beq_self_eq_true]
    have n1 : (if chk adj = 0 then fT adj.length (colV adj) else []).length < 4611686018427387904 := by
      by_cases h : chk adj = 0
      · rw [if_pos h, fT_length]; omega
      · rw [if_neg h]; decide
    have n2 : ∀ x ∈ (if chk adj = 0 then fT adj.length (colV adj) else []), x.length < 4611686018427387904 := by
      by_cases h : chk adj = 0
      · rw [if_pos h]
        intro x hx
        obtain ⟨j, _, rfl⟩ := mem_fT.1 hx
        have := colK_length adj j adj.length
        unfold colV; omega
      · rw [if_neg h]; intro x hx; cases hx
    have n3 : (if chk adj = 0 then fT adj.length (fun j => ((colV adj j).length : Int)) else []).length < 4611686018427387904 := by
      by_cases h : chk adj = 0
      · rw [if_pos h, fT_length]; omega
      · rw [if_neg h]; decide
    simp only [t1, t2, columns_any hc, refColumns_any hc, row_any hc, refRow_any hc, counts_any hc, refCounts_any hc, Fill_eq hc o (fun h _ => h2 h) (by omega), refFill_eq hc o, Option.bind_some, Lists_eq _ _ n1 n2, Ints_eq _ _ (rowA_length adj i), Ints_eq _ _ n3,
      beq_self_eq_true, cond_true, awake20]
    exact Ok.some_iff.2 rfl
end Go.Fw
end

section
namespace Go.Fw
set_option linter.unusedSimpArgs false
set_option linter.unusedVariables false
open Go
theorem perm_natL {o : List Int} {n : Nat} (h : o.Perm (natL (List.range n))) : IsPerm o n := by
  refine ⟨by rw [h.length_eq, natL_length, List.length_range], fun x hx => ?_, ?_⟩
  · obtain ⟨y, hy, rfl⟩ := List.mem_map.1 (h.mem_iff.1 hx)
    have := List.mem_range.1 hy; omega
  · rw [h.nodup_iff]
    exact List.Pairwise.map _ (fun a b hab e => hab (by omega)) List.nodup_range
theorem Shuffle_perm (l : List Int) (n : Nat) (hn : n ≤ 4000) : Ok (d_sparsekit_Shuffle (l, (n : Int), ())) (fun r => r.1.Perm (natL (List.range n))) := by
  unfold d_sparsekit_Shuffle
  simp only []
  have h1 : loop (σ := (Int × (List Int) × Unit)) (ρ := ((List Int) × Unit)) (fun (i_6, left_7, _) =>
      (bif (decide (i_6 < (n : Int))) then (
      (limO ((left_7).length + ([i_6]).length)).bind fun _ =>
      some (.inl ((IntKind.i64.wrap (i_6 + ((1) : Int))), (left_7 ++ [i_6]), ()))) else (
      some (.inr (left_7, ()))))) (((0) : Int), [], ()) = some (natL (List.range n), ()) := by
    refine loop_for n (fun i => (natL (List.range i), ())) 0 rfl rfl (Nat.zero_le _) ?_ ?_
    · intro i _ hi
      have : natL (List.range (i + 1)) = natL (List.range i) ++ [(i : Int)] := by rw [List.range_succ, natL_append]; rfl
      have hl : (natL (List.range i)).length + [((i : Nat) : Int)].length ≤ 4294967296 := by rw [natL_length, List.length_range]; simp only [List.length_singleton]; omega
      simp (disch := omega) only [cond_dec, if_pos, limO_ok hl, Option.bind_some, wrap_inc, this]
    · simp (disch := omega) only [cond_dec, if_neg]
  rw [h1]
  simp only [Option.bind_some]
  refine Ok.bind_of (P := fun r => r.1.Perm (natL (List.range n))) ?_ (fun r hr => Ok.some_iff.2 hr)
  refine Ok.for n (fun k t => t.1.length + k = n ∧ (t.1 ++ t.2.1).Perm (natL (List.range n))) (i0 := 0) rfl ⟨by rw [natL_length, List.length_range]; omega, by rw [List.append_nil]⟩ (Nat.zero_le _) ?_ ?_
  · rintro k ⟨left, out, ⟨⟩⟩ _ hk ⟨hlen, hP⟩
    have hpl := hP.length_eq
    rw [natL_length, List.length_range, List.length_append] at hpl
    dsimp only at hlen hpl
    simp (disch := omega) only [cond_dec, if_pos]
    refine Ok.bind_of (P := fun q => q.1.length + (k + 1) = n ∧ (q.1 ++ q.2.1).Perm (natL (List.range n))) ?_ ?_
    · refine Ok.bind_of (P := fun q => ∃ at' : Nat, q = ((at' : Int), left, out, ()) ∧ at' < left.length) ?_ ?_
      · refine Ok.ite (fun h => ?_) (fun h => Ok.some_iff.2 ⟨0, rfl, by omega⟩)
        have hkl : k < l.length := by omega
        rw [getN_some (List.getElem?_eq_getElem hkl)]
        simp only [Option.bind_some]
        rw [Place_eq _ _ (by omega) (by omega)]
        simp only [Option.bind_some]
        obtain ⟨m, hm, hm2⟩ := place_nat l[k] (left.length : Int) (by omega)
        exact Ok.some_iff.2 ⟨m, by rw [hm], by omega⟩
      · rintro _ ⟨m, rfl, hm⟩
        have hat : left[m]? = some left[m] := List.getElem?_eq_getElem hm
        have e1 : left = left.take m ++ left[m] :: left.drop (m + 1) := by rw [List.getElem_cons_drop, List.take_append_drop]
        have l1 : (left.take m).length = m := by rw [List.length_take]; omega
        have l2 : (left.drop (m + 1)).length = left.length - (m + 1) := List.length_drop ..
        simp (disch := omega) only [idxN_nat, Option.bind_some, atO_some hat, List.length_singleton, limO_ok, natO_ok, leO_ok, posO_ok, Option.map_some, wrap_inc, List.drop_zero, List.take_length, l1, l2]
        refine Ok.some_iff.2 ⟨?_, ?_⟩
        · simp only [List.length_append, l1, l2]; omega
        · refine List.Perm.trans ?_ hP
          conv => rhs; rw [e1]
          simp only [List.append_assoc, List.cons_append]
          refine List.Perm.append_left _ ?_
          rw [← List.append_assoc]
          exact List.perm_append_singleton _ _
    · rintro ⟨left2, out2, ⟨⟩⟩ hq
      simp (disch := omega) only [wrap_inc]
      exact Ok.some_iff.2 ⟨rfl, hq⟩
  · rintro ⟨left, out, ⟨⟩⟩ ⟨hlen, hP⟩
    dsimp only at hlen hP
    simp (disch := omega) only [cond_dec, if_neg]
    have : left = [] := List.eq_nil_of_length_eq_zero (by omega)
    subst this
    exact Ok.some_iff.2 (by simpa using hP)
theorem Shuffle_ok (l : List Int) (n : Nat) (hn : n ≤ 4000) : Ok (d_sparsekit_Shuffle (l, (n : Int), ())) (fun r => IsPerm r.1 n) := (Shuffle_perm l n hn).mono fun r h => perm_natL h
theorem SymbolicMade_true (n : Int) (l : List Int) (i : Int) (o : List Int) : d_sparselaw20q_SymbolicMade (n, l, i, o, ()) = some (true, ()) := by
  classical
  rw [← Ok.eq_iff]
  unfold d_sparselaw20q_SymbolicMade
  simp only [cond_dec, awake20, Option.bind_some, Place_eq n 12 (by omega) (by omega)]
  refine Ok.ite (fun _ => Ok.some_iff.2 rfl) (fun hl => ?_)
  obtain ⟨m, hm, hm2⟩ := place_nat n 12 (by omega)
  have h1 : IntKind.i64.wrap (1 + (m : Int)) = ((m + 1 : Nat) : Int) := by rw [wrap64] <;> omega
  rw [hm, h1]
  refine Ok.bind_of (Graph_ok (m + 1) l (by omega) (by omega)) ?_
  rintro ⟨⟨adj, ⟨⟩⟩, ⟨⟩⟩ ⟨hal, hV, hx⟩
  simp only at hal hV hx
  rw [Place_eq i _ (by omega) (by omega)]
  simp only [Option.bind_some]
  obtain ⟨k, hk, hk2⟩ := place_nat i ((m + 1 : Nat) : Int) (by omega)
  rw [hk]
  refine Ok.bind_of (Shuffle_ok o (m + 1) (by omega)) ?_
  rintro ⟨p, ⟨⟩⟩ hp
  simp only at hp
  have hc : ∀ l ∈ adj, l.length < 4611686018427387904 := fun l hl => by have := hx l hl; omega
  have hn : adj.length ≤ 200 := by omega
  have h0 : chk adj = 0 := chk_zero.2 ⟨hn, hV⟩
  have hpe : permE adj p = 0 := perm_iff hn hV (by rw [hal]; exact hp)
  have hra : (rowA adj (k : Int)).2 = 0 := by unfold rowA; rw [if_neg (not_not_intro h0), if_pos (by omega)]
  have n1 : (fT adj.length (colV adj)).length < 4611686018427387904 := by rw [fT_length]; omega
  have n2 : ∀ x ∈ fT adj.length (colV adj), x.length < 4611686018427387904 := by
    intro x hx
    obtain ⟨j, _, rfl⟩ := mem_fT.1 hx
    have := colK_length adj j adj.length
    unfold colV; omega
  have n3 : (fT adj.length (fun j => ((colV adj j).length : Int))).length < 4611686018427387904 := by rw [fT_length]; omega
  simp only [columns_any hc, refColumns_any hc, row_any hc, refRow_any hc, counts_any hc, refCounts_any hc, Fill_eq hc p (fun _ _ => by omega) (by have := hp.1; omega), refFill_eq hc p, Option.bind_some, h0, if_true, hpe, hra, Lists_eq _ _ n1 n2, Ints_eq _ _ (rowA_length adj k), Ints_eq _ _ n3,
    beq_self_eq_true, cond_true, awake20]
  exact Ok.some_iff.2 rfl
end Go.Fw
end

section
namespace Go.Fw
set_option linter.unusedSimpArgs false
set_option linter.unusedVariables false
open Go
theorem idxO {n : Nat} {B : Nat → Nat → Bool} {a : Nat} (h : a < n) : atO (mT n B) a (fun e => some e) = some (fT n (B a)) := atO_fT h
/-- A table where one bit is cleared. -/
theorem clear_eq {n : Nat} {B : Nat → Nat → Bool} {a b : Nat} (ha : a < n) (hb : b < n) :
    atO (mT n B) a (fun e => (atO e b fun _ => some (e.set b false)).map fun z => (mT n B).set a z) = some (mT n (fun x y => if x = a ∧ y = b then false else B x y)) := by
  have h1 : atO (mT n B) a (fun e => (atO e b fun _ => some (e.set b false)).map fun z => (mT n B).set a z) = (atO (fT n (B a)) b fun _ => some ((fT n (B a)).set b false)).map fun z => (mT n B).set a z := atO_fT ha
  rw [h1, atO_fT hb]
  simp only [Option.map_some]
  unfold mT
  rw [fT_set, fT_set]
  refine congrArg some (fT_congr fun x hx => ?_)
  simp only [upd]
  by_cases h : x = a
  · rw [if_pos h]
    refine fT_congr fun y hy => ?_
    simp only [upd]
    by_cases h2 : y = b
    · rw [if_pos h2, if_pos ⟨h, h2⟩]
    · rw [if_neg h2, if_neg (fun e => h2 e.2), h]
  · rw [if_neg h]
    refine fT_congr fun y hy => ?_
    rw [if_neg (fun e => h e.1)]
theorem nat_get {L : List Nat} {k : Nat} (h : k < L.length) : getI (natL L) (k : Int) = some ((L[k] : Nat) : Int) := getN_some (by simp [natL, h])
/-- The table behind the elimination of v. -/
def elB (B : Nat → Nat → Bool) (v : Nat) : Nat → Nat → Bool := fun a b => if a = v ∨ b = v then false else B a b || (decide (a ≠ b) && (B v a && B v b))
theorem elim_mT {n : Nat} (hn : n ≤ 4294967296) {B : Nat → Nat → Bool} {γ : Nat → Bool} {v : Nat} (hv : v < n) (hs : ∀ a b, B a b = B b a) (hd : B v v = false) :
    d_mindeg_Elimination_Eliminate ((mT n B, (fT n γ, ())), (v : Int), ()) = some ((mT n (elB B v), (fT n (upd γ v true), ())), natL ((List.range n).filter (B v)), ()) := by
  unfold d_mindeg_Elimination_Eliminate
  simp only []
  rw [List_eq hn hv]
  simp only [Option.bind_some]
  generalize hL : (List.range n).filter (B v) = L
  have hmem : ∀ x, x ∈ L ↔ x < n ∧ B v x = true := fun x => by rw [← hL, List.mem_filter, List.mem_range]
  have hnd : L.Nodup := by rw [← hL]; exact List.nodup_range.sublist List.filter_sublist
  have hlt : ∀ k, (h : k < L.length) → L[k] < n := fun k h => ((hmem _).1 (List.getElem_mem h)).1
  have hvL : v ∉ L := fun h => by have := ((hmem v).1 h).2; rw [hd] at this; cases this
  let Bk : Nat → Nat → Nat → Bool := fun k a b => if (a = v ∧ b ∈ L.take k) ∨ (b = v ∧ a ∈ L.take k) then false else B a b || (decide (a ≠ b) && (decide (a ∈ L.take k) && decide (b ∈ L.take k)))
  have hll : L.length ≤ n := by rw [← hL]; exact Nat.le_trans (List.length_filter_le _ _) (by simp)
  have hnl : (natL L).length = L.length := natL_length L
  refine bind_eq (y := ((mT n (Bk L.length), (fT n γ, ())), ())) (loop_for L.length (fun k => ((mT n (Bk k), (fT n γ, ())), ())) 0 rfl ?_ (Nat.zero_le _) ?_ ?_) ?_
  · refine congrArg (fun t => ((t, (fT n γ, ())), ())) (mT_congr fun a b _ _ => ?_)
    simp [Bk]
  · intro k _ hk
    have hkn := hlt k hk
    have hkv : L[k] ≠ v := fun e => hvL (e ▸ List.getElem_mem hk)
    have hlen : ((natL L).take k).length = k := by rw [List.length_take, hnl]; omega
    simp (disch := omega) only [hnl, cond_dec, if_pos, nat_get hk, Option.bind_some, natO_ok, leO_ok, Option.map_some, List.drop_zero]
    have htk : ∀ x, x ∈ L.take (k + 1) ↔ x ∈ L.take k ∨ x = L[k] := fun x => by
      rw [← take_snoc hk, List.mem_append, List.mem_singleton]
    have hnk : L[k] ∉ L.take k := fun hm => by
      obtain ⟨m, hm1, hm2⟩ := List.mem_iff_getElem.1 hm
      simp only [List.length_take] at hm1
      simp only [List.getElem_take] at hm2
      have := (List.getElem_inj hnd).1 hm2
      omega
    let Bj : Nat → Nat → Nat → Bool := fun j a b => Bk k a b || (decide (a ≠ b) && ((decide (a = L[k]) && decide (b ∈ L.take j)) || (decide (b = L[k]) && decide (a ∈ L.take j))))
    refine bind_eq (y := ((mT n (Bj k), (fT n γ, ())), ())) (loop_for k (fun j => ((mT n (Bj j), (fT n γ, ())), ())) 0 rfl ?_ (Nat.zero_le _) ?_ ?_) ?_
    · refine congrArg (fun t => ((t, (fT n γ, ())), ())) (mT_congr fun a b _ _ => ?_)
      simp [Bj]
    · intro j _ hj
      have hjl : j < L.length := by omega
      have hg2 : getI ((natL L).take k) (j : Int) = some ((L[j] : Nat) : Int) := getN_some (by rw [List.getElem?_take_of_lt hj]; simp [natL, hjl])
      simp (disch := omega) only [hlen, cond_dec, if_pos, hg2, Option.bind_some, wrap_inc, Join_eq hkn (hlt j hjl)]
      refine congrArg (fun t => some (Sum.inl (((j + 1 : Nat) : Int), (t, (fT n γ, ())), ()))) (mT_congr fun a b _ _ => ?_)
      have hjk : L[j] ≠ L[k] := fun e => by have := (List.getElem_inj hnd).1 e; omega
      have htj : ∀ x, x ∈ L.take (j + 1) ↔ x ∈ L.take j ∨ x = L[j] := fun x => by
        rw [← take_snoc hjl, List.mem_append, List.mem_singleton]
      simp only [Bj]
      rw [Bool.eq_iff_iff]
      simp only [Bool.or_eq_true, Bool.and_eq_true, decide_eq_true_eq, htj]
      constructor
      · rintro ((h | ⟨h1, h2⟩) | ⟨h1, ⟨rfl, rfl⟩ | ⟨rfl, rfl⟩⟩)
        · exact .inl h
        · exact .inr ⟨h1, h2.imp (fun h => ⟨h.1, .inl h.2⟩) (fun h => ⟨h.1, .inl h.2⟩)⟩
        · exact .inr ⟨h1, .inl ⟨rfl, .inr rfl⟩⟩
        · exact .inr ⟨fun e => h1 e.symm, .inr ⟨rfl, .inr rfl⟩⟩
      · rintro (h | ⟨h1, ⟨h2, h3 | h3⟩ | ⟨h2, h3 | h3⟩⟩)
        · exact .inl (.inl h)
        · exact .inl (.inr ⟨h1, .inl ⟨h2, h3⟩⟩)
        · exact .inr ⟨fun e => hjk e.symm, .inl ⟨h2, h3⟩⟩
        · exact .inl (.inr ⟨h1, .inr ⟨h2, h3⟩⟩)
        · exact .inr ⟨fun e => hjk e.symm, .inr ⟨h3, h2⟩⟩
    · simp (disch := omega) only [hlen, cond_dec, if_neg]
    · simp (disch := omega) only [mT_length, idxN_nat, Option.bind_some, idxO, fT_length, clear_eq, Option.map_some, wrap_inc]
      refine congrArg (fun t => some (Sum.inl (((k + 1 : Nat) : Int), (t, (fT n γ, ())), ()))) (mT_congr fun a b _ _ => ?_)
      simp only [Bj, Bk]
      by_cases h1 : a = v ∧ b = L[k]
      · rw [if_pos h1, if_pos (.inl ⟨h1.1, (htk b).2 (.inr h1.2)⟩)]
      rw [if_neg h1]
      by_cases h2 : a = L[k] ∧ b = v
      · rw [if_pos h2, if_pos (.inr ⟨h2.2, (htk a).2 (.inr h2.1)⟩)]
      rw [if_neg h2]
      by_cases h3 : (a = v ∧ b ∈ L.take k) ∨ (b = v ∧ a ∈ L.take k)
      · rw [if_pos h3, if_pos (h3.imp (fun h => ⟨h.1, (htk b).2 (.inl h.2)⟩) (fun h => ⟨h.1, (htk a).2 (.inl h.2)⟩))]
        rw [Bool.eq_false_iff]
        simp only [Bool.false_or, ne_eq, Bool.and_eq_true, Bool.or_eq_true, decide_eq_true_eq]
        rintro ⟨_, ⟨g1, g2⟩ | ⟨g1, g2⟩⟩
        · rcases h3 with h | h
          · exact hkv (g1.symm.trans h.1)
          · exact hvL (h.1 ▸ List.mem_of_mem_take g2)
        · rcases h3 with h | h
          · exact hvL (h.1 ▸ List.mem_of_mem_take g2)
          · exact hkv (g1.symm.trans h.1)
      · rw [if_neg h3, if_neg (by
          rintro (⟨g1, g2⟩ | ⟨g1, g2⟩)
          · rcases (htk b).1 g2 with g | g
            · exact h3 (.inl ⟨g1, g⟩)
            · exact h1 ⟨g1, g⟩
          · rcases (htk a).1 g2 with g | g
            · exact h3 (.inr ⟨g1, g⟩)
            · exact h2 ⟨g, g1⟩)]
        rw [Bool.eq_iff_iff]
        simp only [Bool.or_eq_true, Bool.and_eq_true, decide_eq_true_eq, htk]
        constructor
        · rintro ((h | ⟨g1, g2, g3⟩) | ⟨g1, ⟨g2, g3⟩ | ⟨g2, g3⟩⟩)
          · exact .inl h
          · exact .inr ⟨g1, .inl g2, .inl g3⟩
          · exact .inr ⟨g1, .inr g2, .inl g3⟩
          · exact .inr ⟨g1, .inl g3, .inr g2⟩
        · rintro (h | ⟨g1, g2 | g2, g3 | g3⟩)
          · exact .inl (.inl h)
          · exact .inl (.inr ⟨g1, g2, g3⟩)
          · exact .inr ⟨g1, .inr ⟨g3, g2⟩⟩
          · exact .inr ⟨g1, .inl ⟨g2, g3⟩⟩
          · exact absurd (g2.trans g3.symm) g1
  · simp (disch := omega) only [hnl, cond_dec, if_neg]
  · simp (disch := omega) only [fT_length, idxN_nat, Option.bind_some, atO_fT, fT_set, Option.map_some]
    refine congrArg (fun t => some ((t, (fT n (upd γ v true), ())), natL L, ())) (mT_congr fun a b ha hb => ?_)
    simp only [Bk, elB, List.take_length, hmem]
    by_cases h0 : a = v ∨ b = v
    · rw [if_pos h0]
      by_cases h1 : (a = v ∧ b < n ∧ B v b = true) ∨ (b = v ∧ a < n ∧ B v a = true)
      · rw [if_pos h1]
      · rw [if_neg h1, Bool.eq_false_iff]
        simp only [ne_eq, Bool.or_eq_true, Bool.and_eq_true, decide_eq_true_eq, not_or, not_and]
        rcases h0 with h0 | h0
        · subst h0
          refine ⟨fun h => h1 (.inl ⟨rfl, hb, h⟩), fun _ h => ?_⟩
          rw [hd] at h; cases h.2
        · subst h0
          refine ⟨fun h => h1 (.inr ⟨rfl, ha, by rw [hs]; exact h⟩), fun _ _ _ h => ?_⟩
          rw [hd] at h; cases h
    · rw [if_neg h0, if_neg (fun h => h0 (h.imp (fun h => h.1) (fun h => h.1)))]
      simp [ha, hb]
def nbB (adj : List (List Int)) (a b : Nat) : Bool := decide ((b : Int) ∈ adj.getD a [])
theorem nbB_iff {adj : List (List Int)} {a b : Nat} : nbB adj a b = true ↔ Nb adj a b := by
  unfold nbB
  rw [decide_eq_true_eq]
  by_cases h : a < adj.length
  · rw [getD_lt h]; exact ⟨fun h2 => ⟨h, h2⟩, fun ⟨_, h2⟩ => h2⟩
  · rw [show adj.getD a [] = [] by simp [List.getD, List.getElem?_eq_none (Nat.le_of_not_lt h)]]
    exact ⟨fun h2 => (by cases h2), fun ⟨h2, _⟩ => absurd h2 h⟩
theorem nbB_symm {adj : List (List Int)} (hV : Valid adj) (a b : Nat) : nbB adj a b = nbB adj b a := by
  rw [Bool.eq_iff_iff, nbB_iff, nbB_iff]; exact ⟨Nb.symm hV a b, Nb.symm hV b a⟩
/-- Table of a valid graph. -/
theorem Table_mT {adj : List (List Int)} (hV : Valid adj) (hn : adj.length ≤ 200) : d_graph_Table ((adj, ()), ()) = some (mT adj.length (nbB adj), ()) := by
  generalize hN : adj.length = n at *
  unfold d_graph_Table
  simp only [hN]
  rw [NewSets_eq n (by omega)]
  simp only [Option.bind_some]
  let Bv : Nat → Nat → Nat → Bool := fun v a b => nbB adj a b && (decide (a < v) || decide (b < v))
  refine bind_eq (y := (mT n (Bv n), ())) (loop_for n (fun v => (mT n (Bv v), ())) 0 rfl ?_ (Nat.zero_le _) ?_ ?_) ?_
  · refine congrArg (fun t => (t, ())) (mT_congr fun a b _ _ => ?_)
    simp [Bv]
  · intro v _ hv
    have hvl : v < adj.length := by omega
    have hg : getI adj (v : Int) = some adj[v] := getN_some (List.getElem?_eq_getElem hvl)
    have hrow := (Valid_iff adj).1 hV v hvl
    have hlen : adj[v].length ≤ n := by have := hV.rows _ (List.getElem_mem hvl); omega
    simp (disch := omega) only [cond_dec, if_pos, hg, Option.bind_some]
    let Bk : Nat → Nat → Nat → Bool := fun k a b => Bv v a b || ((decide (a = v) && decide ((b : Int) ∈ adj[v].take k)) || (decide (b = v) && decide ((a : Int) ∈ adj[v].take k)))
    refine bind_eq (y := (mT n (Bk adj[v].length), ())) (loop_for adj[v].length (fun k => (mT n (Bk k), ())) 0 rfl ?_ (Nat.zero_le _) ?_ ?_) ?_
    · refine congrArg (fun t => (t, ())) (mT_congr fun a b _ _ => ?_)
      simp [Bk]
    · intro k _ hk
      have hx := hrow.2 k hk
      obtain ⟨x, hxx⟩ : ∃ x : Nat, adj[v][k] = (x : Int) := ⟨adj[v][k].toNat, by omega⟩
      have hxn : x < n := by omega
      have hxv : v ≠ x := fun e => hx.2.1 (by rw [hxx, e])
      have hg2 : getI adj[v] (k : Int) = some (x : Int) := by rw [getN_some (List.getElem?_eq_getElem hk), hxx]
      simp (disch := omega) only [cond_dec, if_pos, hg2, Option.bind_some, Join_eq hv hxn, wrap_inc]
      refine congrArg (fun t => some (Sum.inl (((k + 1 : Nat) : Int), t, ()))) (mT_congr fun a b _ _ => ?_)
      have htk : ∀ y : Nat, (y : Int) ∈ adj[v].take (k + 1) ↔ (y : Int) ∈ adj[v].take k ∨ y = x := fun y => by
        rw [← take_snoc hk, List.mem_append, List.mem_singleton, hxx]; exact or_congr Iff.rfl Int.ofNat_inj
      simp only [Bk]
      rw [Bool.eq_iff_iff]
      simp only [Bool.or_eq_true, Bool.and_eq_true, decide_eq_true_eq, htk]
      constructor
      · rintro ((h | h | h) | ⟨_, ⟨rfl, rfl⟩ | ⟨rfl, rfl⟩⟩)
        · exact .inl h
        · exact .inr (.inl ⟨h.1, .inl h.2⟩)
        · exact .inr (.inr ⟨h.1, .inl h.2⟩)
        · exact .inr (.inl ⟨rfl, .inr rfl⟩)
        · exact .inr (.inr ⟨rfl, .inr rfl⟩)
      · rintro (h | ⟨h1, h2 | h2⟩ | ⟨h1, h2 | h2⟩)
        · exact .inl (.inl h)
        · exact .inl (.inr (.inl ⟨h1, h2⟩))
        · exact .inr ⟨hxv, .inl ⟨h1, h2⟩⟩
        · exact .inl (.inr (.inr ⟨h1, h2⟩))
        · exact .inr ⟨hxv, .inr ⟨h2, h1⟩⟩
    · simp (disch := omega) only [cond_dec, if_neg]
    · simp (disch := omega) only [wrap_inc]
      refine congrArg (fun t => some (Sum.inl (((v + 1 : Nat) : Int), t, ()))) (mT_congr fun a b _ _ => ?_)
      have hvb : ∀ y : Nat, (y : Int) ∈ adj[v] ↔ nbB adj v y = true := fun y => by rw [nbB_iff]; exact ⟨fun h => ⟨hvl, h⟩, fun ⟨_, h⟩ => h⟩
      simp only [Bk, Bv, List.take_length]
      rw [Bool.eq_iff_iff]
      simp only [Bool.or_eq_true, Bool.and_eq_true, decide_eq_true_eq, hvb]
      constructor
      · rintro (⟨h1, h2⟩ | ⟨rfl, h2⟩ | ⟨rfl, h2⟩)
        · exact ⟨h1, by omega⟩
        · exact ⟨h2, by omega⟩
        · exact ⟨by rw [nbB_symm hV]; exact h2, by omega⟩
      · rintro ⟨h1, h2⟩
        by_cases h3 : a = v
        · exact .inr (.inl ⟨h3, h3 ▸ h1⟩)
        · by_cases h4 : b = v
          · exact .inr (.inr ⟨h4, by rw [nbB_symm hV, ← h4]; exact h1⟩)
          · exact .inl ⟨h1, by omega⟩
  · simp (disch := omega) only [cond_dec, if_neg]
  · refine congrArg (fun t => some (t, ())) (mT_congr fun a b ha hb => ?_)
    simp [Bv, ha, hb]
/-- What is joined when the vertices of S are eliminated. -/
noncomputable def bT (adj : List (List Int)) (S : Nat → Prop) (a b : Nat) : Bool := open Classical in decide (a ≠ b ∧ ¬ S a ∧ ¬ S b ∧ WalkP (Nb adj) S a b)
theorem bT_iff {adj : List (List Int)} {S : Nat → Prop} {a b : Nat} : bT adj S a b = true ↔ a ≠ b ∧ ¬ S a ∧ ¬ S b ∧ WalkP (Nb adj) S a b := by classical unfold bT; exact decide_eq_true_iff
theorem bT_symm {adj : List (List Int)} (hV : Valid adj) {S : Nat → Prop} (a b : Nat) : bT adj S a b = bT adj S b a := by
  rw [Bool.eq_iff_iff, bT_iff, bT_iff]
  exact ⟨fun ⟨h1, h2, h3, h4⟩ => ⟨fun e => h1 e.symm, h3, h2, h4.symm (Nb.symm hV)⟩, fun ⟨h1, h2, h3, h4⟩ => ⟨fun e => h1 e.symm, h3, h2, h4.symm (Nb.symm hV)⟩⟩
theorem bT_self {adj : List (List Int)} {S : Nat → Prop} (a : Nat) : bT adj S a a = false := by rw [Bool.eq_false_iff]; exact fun h => (bT_iff.1 h).1 rfl
theorem bT_none {adj : List (List Int)} (hV : Valid adj) (a b : Nat) : bT adj (fun _ => False) a b = nbB adj a b := by
  rw [Bool.eq_iff_iff, bT_iff, nbB_iff, WalkP.none]
  exact ⟨fun h => h.2.2.2, fun h => ⟨Nb.ne hV h, fun h => h, fun h => h, h⟩⟩
theorem bT_next {adj : List (List Int)} (hV : Valid adj) {S : Nat → Prop} {v : Nat} (hv : ¬ S v) (a b : Nat) : elB (bT adj S) v a b = bT adj (fun x => S x ∨ x = v) a b := by
  unfold elB
  rw [Bool.eq_iff_iff, bT_iff, WalkP.insert_iff]
  by_cases h : a = v ∨ b = v
  · rw [if_pos h]
    exact ⟨fun h2 => (by cases h2), fun ⟨_, h1, h2, _⟩ => absurd h (fun h => h.elim (fun h => h1 (.inr h)) (fun h => h2 (.inr h)))⟩
  · rw [if_neg h]
    simp only [Bool.or_eq_true, Bool.and_eq_true, decide_eq_true_eq, bT_iff]
    have hs := Nb.symm hV
    constructor
    · rintro (⟨h1, h2, h3, h4⟩ | ⟨h1, ⟨_, _, h2, h3⟩, ⟨_, _, h4, h5⟩⟩)
      · exact ⟨h1, fun h' => h'.elim h2 (fun e => h (.inl e)), fun h' => h'.elim h3 (fun e => h (.inr e)), .inl h4⟩
      · exact ⟨h1, fun h' => h'.elim h2 (fun e => h (.inl e)), fun h' => h'.elim h4 (fun e => h (.inr e)), .inr ⟨h3.symm hs, h5⟩⟩
    · rintro ⟨h1, h2, h3, h4 | ⟨h4, h5⟩⟩
      · exact .inl ⟨h1, fun q => h2 (.inl q), fun q => h3 (.inl q), h4⟩
      · exact .inr ⟨h1, ⟨fun e => h (.inl e.symm), hv, fun q => h2 (.inl q), h4.symm hs⟩, ⟨fun e => h (.inr e.symm), hv, fun q => h3 (.inl q), h5⟩⟩
theorem Start_eq {adj : List (List Int)} (hV : Valid adj) (hn : adj.length ≤ 200) : d_mindeg_Start ((adj, ()), ()) = some ((mT adj.length (bT adj fun _ => False), (fT adj.length (fun _ => false), ())), ()) := by
  unfold d_mindeg_Start
  simp only [Table_mT hV hn, Option.bind_some, madeO_ok (show adj.length ≤ 4294967296 by omega), fT_replicate]
  rw [mT_congr (fun a b _ _ => (bT_none hV a b).symm)]
/-- The vertices of an order; those ahead of place k; the degree at step k. -/
def ordN (o : List Int) (k : Nat) : Nat := (o.getD k 0).toNat
def ahead (o : List Int) (k : Nat) (x : Nat) : Prop := ∃ j, j < k ∧ x = ordN o j
noncomputable def dgN (adj : List (List Int)) (o : List Int) (k : Nat) : Nat := ((List.range adj.length).filter (bT adj (ahead o k) (ordN o k))).length
theorem IsPerm.get {o : List Int} {n : Nat} (h : IsPerm o n) {k : Nat} (hk : k < n) : getI o (k : Int) = some ((ordN o k : Nat) : Int) ∧ ordN o k < n := by
  have hl : k < o.length := by rw [h.1]; exact hk
  have h1 := h.2.1 _ (List.getElem_mem hl)
  have h2 : ordN o k = o[k].toNat := by unfold ordN; rw [getD_lt hl]
  exact ⟨by rw [getN_some (List.getElem?_eq_getElem hl), h2]; congr 1; omega, by omega⟩
theorem IsPerm.inj {o : List Int} {n : Nat} (h : IsPerm o n) {j k : Nat} (hj : j < n) (hk : k < n) (e : ordN o j = ordN o k) : j = k := by
  have hjl : j < o.length := by rw [h.1]; exact hj
  have hkl : k < o.length := by rw [h.1]; exact hk
  have h1 := h.2.1 _ (List.getElem_mem hjl)
  have h2 := h.2.1 _ (List.getElem_mem hkl)
  unfold ordN at e
  rw [getD_lt hjl, getD_lt hkl] at e
  exact (List.getElem_inj h.2.2).1 (by omega)
theorem Degrees_eq {adj : List (List Int)} (hV : Valid adj) (hn : adj.length ≤ 12) {o : List Int} (hp : IsPerm o adj.length) :
    d_mindeg_Degrees ((adj, ()), o, ()) = some (fT adj.length (fun k => (dgN adj o k : Int)), 0, ()) := by
  classical
  have hc := hV.hc (by omega)
  unfold d_mindeg_Degrees
  simp only [Permuted_eq hc o (fun _ _ => hn) (by have := hp.1; omega), perm_iff (by omega) hV hp, Option.bind_some, bneI, decide_true, Bool.not_true, cond_false, Start_eq hV (by omega), hp.1]
  refine bind_eq (loop_for (r := (fT adj.length (fun k => (dgN adj o k : Int)), ())) adj.length (fun k => ((mT adj.length (bT adj (ahead o k)), (fT adj.length (fun x => open Classical in decide (ahead o k x)), ())), fT k (fun k => (dgN adj o k : Int)), ())) 0 rfl ?_ (Nat.zero_le _) ?_ ?_) rfl
  · have e : ahead o 0 = fun _ => False := by funext x; exact eq_false (fun ⟨j, h, _⟩ => by omega)
    rw [e]
    simp [fT_zero]
  · intro k _ hk
    obtain ⟨hg, hv⟩ := hp.get hk
    have hS : ¬ ahead o k (ordN o k) := fun ⟨j, hj, e⟩ => by have := hp.inj hk (by omega) e; omega
    have hnext : (fun x => ahead o k x ∨ x = ordN o k) = ahead o (k + 1) := by
      funext x
      refine propext ⟨?_, ?_⟩
      · rintro (⟨j, hj, e⟩ | e)
        · exact ⟨j, by omega, e⟩
        · exact ⟨k, by omega, e⟩
      · rintro ⟨j, hj, e⟩
        by_cases h : j = k
        · exact .inr (h ▸ e)
        · exact .inl ⟨j, by omega, e⟩
    simp (disch := omega) only [cond_dec, if_pos, hg, Option.bind_some, elim_mT (by omega) hv (bT_symm hV) (bT_self _), fT_length, List.length_singleton, limO_ok, wrap_inc, natL_length]
    rw [mT_congr (fun a b _ _ => bT_next hV hS a b), hnext, fT_succ]
    refine congrArg (fun t => some (Sum.inl (((k + 1 : Nat) : Int), (mT adj.length (bT adj (ahead o (k + 1))), (t, ())), fT k (fun k => (dgN adj o k : Int)) ++ [(dgN adj o k : Int)], ()))) (fT_congr fun x _ => ?_)
    have hx : ahead o (k + 1) x ↔ ahead o k x ∨ x = ordN o k := by rw [← hnext]
    simp only [upd]
    by_cases h : x = ordN o k
    · rw [if_pos h]; exact (decide_eq_true (hx.2 (.inr h))).symm
    · rw [if_neg h]
      exact decide_eq_decide.2 ⟨fun q => hx.2 (.inl q), fun q => (hx.1 q).resolve_right h⟩
  · simp (disch := omega) only [cond_dec, if_neg]
end Go.Fw
end

section
namespace Go.Fw
set_option linter.unusedSimpArgs false
set_option linter.unusedVariables false
open Go
/-- How many numbers below n have a property. -/
def nB (n : Nat) (p : Nat → Bool) : Nat := ((List.range n).filter p).length
theorem nB_congr {n : Nat} {p q : Nat → Bool} (h : ∀ i, i < n → p i = q i) : nB n p = nB n q := by
  unfold nB; rw [List.filter_congr fun i hi => h i (List.mem_range.1 hi)]
theorem nB_le (n : Nat) (p : Nat → Bool) : nB n p ≤ n := by unfold nB; exact Nat.le_trans (List.length_filter_le _ _) (by simp)
theorem nB_mono {n : Nat} {p q : Nat → Bool} (h : ∀ i, i < n → p i = true → q i = true) : nB n p ≤ nB n q := by
  unfold nB
  refine List.Sublist.length_le ?_
  have : (List.range n).filter p = ((List.range n).filter q).filter p := by
    rw [List.filter_filter]
    refine List.filter_congr fun i hi => ?_
    have := h i (List.mem_range.1 hi)
    cases hp : p i
    · simp
    · simp [this hp]
  rw [this]; exact List.filter_sublist
theorem nB_or {n : Nat} {p q : Nat → Bool} (h : ∀ i, i < n → p i = true → q i = false) : nB n (fun i => p i || q i) = nB n p + nB n q := by
  unfold nB
  induction n with
  | zero => rfl
  | succ n ih =>
    have ih := ih (fun i hi => h i (by omega))
    rw [List.range_succ, List.filter_append, List.filter_append, List.filter_append, List.length_append, List.length_append, List.length_append, ih]
    have := h n (by omega)
    cases hp : p n
    · cases hq : q n <;> simp [hp, hq] <;> omega
    · simp [hp, this hp]; omega
theorem nB_one {n k : Nat} (hk : k < n) : nB n (fun i => decide (i = k)) = 1 := by
  unfold nB
  induction n with
  | zero => omega
  | succ n ih =>
    rw [List.range_succ, List.filter_append, List.length_append]
    by_cases h : k = n
    · subst h
      have : (List.range k).filter (fun i => decide (i = k)) = [] := List.filter_eq_nil_iff.2 fun i hi => by have := List.mem_range.1 hi; simp; omega
      rw [this]; simp
    · rw [ih (by omega)]
      have h' : ¬ n = k := fun e => h e.symm
      simp [h']
theorem sum_const (n c : Nat) : ((List.range n).map fun _ => c).sum = n * c := by
  induction n with
  | zero => simp
  | succ n ih => rw [List.range_succ, List.map_append, List.sum_append, ih, Nat.succ_mul]; simp
theorem sum_swap (R : Nat → Nat → Bool) (n m : Nat) : ((List.range m).map fun j => nB n (R j)).sum = ((List.range n).map fun i => nB m (fun j => R j i)).sum := by
  induction m with
  | zero =>
    show 0 = ((List.range n).map fun _ => 0).sum
    rw [sum_const]; rfl
  | succ m ih =>
    have : ∀ i, nB (m + 1) (fun j => R j i) = nB m (fun j => R j i) + (if R m i = true then 1 else 0) := fun i => by
      unfold nB
      rw [List.range_succ, List.filter_append, List.length_append]
      by_cases h : R m i = true <;> simp [h]
    rw [List.range_succ, List.map_append, List.sum_append, ih]
    simp only [this]
    rw [sum_addq, sum_ite]
    simp [nB]
theorem sum_le {l : List Nat} {f g : Nat → Nat} (h : ∀ x ∈ l, f x ≤ g x) : (l.map f).sum ≤ (l.map g).sum := by
  induction l with
  | nil => simp
  | cons a l ih => simp only [List.map_cons, List.sum_cons]; have := h a (by simp); have := ih (fun x hx => h x (by simp [hx])); omega
theorem IsPerm.map_perm {o : List Int} {n : Nat} (hp : o.Perm (natL (List.range n))) : ((List.range n).map (ordN o)).Perm (List.range n) := by
  have h1 := hp.map Int.toNat
  have e1 : (natL (List.range n)).map Int.toNat = List.range n := by
    unfold natL; rw [List.map_map]; exact List.map_id'' (fun x => by simp) _
  have hl : o.length = n := by rw [hp.length_eq, natL_length, List.length_range]
  have e2 : o.map Int.toNat = (List.range n).map (ordN o) := by
    apply List.ext_getElem
    · simp [hl]
    · intro i h1 h2
      have : i < o.length := by simpa using h1
      simp only [List.getElem_map, List.getElem_range, ordN]
      rw [getD_lt this]
  rw [e1, e2] at h1; exact h1
theorem nB_perm {o : List Int} {n : Nat} (hp : o.Perm (natL (List.range n))) (p : Nat → Bool) : nB n p = nB n (fun i => p (ordN o i)) := by
  unfold nB
  rw [← ((IsPerm.map_perm hp).filter p).length_eq, List.filter_map, List.length_map]
  rfl
theorem sum_perm {o : List Int} {n : Nat} (hp : o.Perm (natL (List.range n))) (f : Nat → Nat) : ((List.range n).map f).sum = ((List.range n).map fun k => f (ordN o k)).sum := by
  rw [← ((IsPerm.map_perm hp).map f).sum_nat, List.map_map]
  rfl
section
variable {adj : List (List Int)} (hV : Valid adj) {o : List Int} (hp : IsPerm o adj.length)
include hV hp
theorem nb_ind {a b : Nat} (ha : a < adj.length) (hb : b < adj.length) : Nb (fromT (indT adj o)) a b ↔ Nb adj (ordN o a) (ordN o b) := by
  have ha' : a < o.length := by rw [hp.1]; exact ha
  have hb' : b < o.length := by rw [hp.1]; exact hb
  rw [Nb_ind hV hp.2.1 hp.2.2]
  unfold ordN
  rw [getD_lt ha', getD_lt hb']
  exact ⟨fun ⟨_, _, h⟩ => h, fun h => ⟨ha', hb', h⟩⟩
theorem walk_ind {k : Nat} (hk : k ≤ adj.length) {a b : Nat} (ha : a < adj.length) (hb : b < adj.length) : WalkP (Nb (fromT (indT adj o))) (fun x => x < k) a b ↔ WalkP (Nb adj) (ahead o k) (ordN o a) (ordN o b) := by
  constructor
  · intro h
    induction h with
    | one h => exact .one ((nb_ind hV hp ha hb).1 h)
    | @step i m j h hm _ ih => exact .step ((nb_ind hV hp ha (by omega)).1 h) ⟨m, hm, rfl⟩ (ih (by omega) hb)
  · have key : ∀ u w, WalkP (Nb adj) (ahead o k) u w → ∀ a, a < adj.length → u = ordN o a → w = ordN o b → WalkP (Nb (fromT (indT adj o))) (fun x => x < k) a b := by
      intro u w h
      induction h with
      | one h =>
        rintro a ha rfl rfl
        exact .one ((nb_ind hV hp ha hb).2 h)
      | step h hm _ ih =>
        rintro a ha rfl rfl
        obtain ⟨m, hm1, rfl⟩ := hm
        exact .step ((nb_ind hV hp ha (by omega)).2 h) hm1 (ih m (by omega) rfl rfl)
    exact fun h => key _ _ h a ha rfl rfl
/-- A column of the factor, counted in the game. -/
theorem col_dg (hpm : o.Perm (natL (List.range adj.length))) {k : Nat} (hk : k < adj.length) : (colV (fromT (indT adj o)) k).length = dgN adj o k + 1 := by
  classical
  have hl : (fromT (indT adj o)).length = adj.length := by rw [fromT_length, indT_length, hp.1]
  have e1 : (colV (fromT (indT adj o)) k).length = nB adj.length (fun i => decide (i = k) || bT adj (ahead o k) (ordN o k) (ordN o i)) := by
    unfold colV colK
    rw [List.length_map, hl]
    refine nB_congr fun i hi => ?_
    rw [Bool.eq_iff_iff]
    simp only [decide_eq_true_eq, Bool.or_eq_true, bT_iff]
    have hinj : ordN o k = ordN o i ↔ k = i := ⟨fun e => hp.inj hk hi e, fun e => by rw [e]⟩
    have hS : ∀ j, j < adj.length → (ahead o k (ordN o j) ↔ j < k) := fun j hj => ⟨fun ⟨m, hm, e⟩ => by have := hp.inj hj (by omega) e; omega, fun h => ⟨j, h, rfl⟩⟩
    rw [ne_eq, hinj, hS k hk, hS i hi]
    unfold InCol
    rw [walk_iff, walk_ind hV hp (by omega) hk hi]
    constructor
    · rintro ⟨h1, h2 | ⟨h2, h3⟩⟩
      · exact .inl h2
      · exact .inr ⟨by omega, by omega, by omega, h3⟩
    · rintro (h | ⟨h1, _, h2, h3⟩)
      · exact ⟨by omega, .inl h⟩
      · exact ⟨by omega, .inr ⟨by omega, h3⟩⟩
  rw [e1, nB_or, nB_one hk, ← nB_perm hpm (bT adj (ahead o k) (ordN o k))]
  · unfold dgN nB; omega
  · intro i hi h
    obtain rfl := of_decide_eq_true h
    exact bT_self _
/-- Twice the degrees are at least the neighbours of all vertices. -/
theorem edges_le (hn : adj.length ≤ 200) (hpm : o.Perm (natL (List.range adj.length))) : ((List.range adj.length).map fun v => (adj.getD v []).length).sum ≤ 2 * ((List.range adj.length).map fun k => dgN adj o k).sum := by
  have hrow : ∀ v, v < adj.length → (adj.getD v []).length = nB adj.length (nbB adj v) := fun v hv => by
    rw [getD_lt hv]
    have hr := (Valid_iff adj).1 hV v hv
    have : adj[v] = natL ((List.range adj.length).filter (nbB adj v)) := by
      refine sorted_ext hr.1 (sorted_filter _ _) (fun x => ?_)
      constructor
      · intro hx
        obtain ⟨m, hm, rfl⟩ := List.mem_iff_getElem.1 hx
        have h1 := hr.2 m hm
        refine List.mem_map.2 ⟨adj[v][m].toNat, List.mem_filter.2 ⟨List.mem_range.2 (by omega), ?_⟩, by omega⟩
        rw [nbB_iff]
        exact ⟨hv, by rw [Int.toNat_of_nonneg h1.1.1]; exact List.getElem_mem hm⟩
      · intro hx
        obtain ⟨y, hy, rfl⟩ := List.mem_map.1 hx
        obtain ⟨_, h2⟩ := nbB_iff.1 (List.mem_filter.1 hy).2
        exact h2
    rw [this, natL_length]; rfl
  have e1 : ((List.range adj.length).map fun v => (adj.getD v []).length).sum = ((List.range adj.length).map fun k => nB adj.length (fun i => nbB adj (ordN o k) (ordN o i))).sum := by
    rw [List.map_congr_left fun v hv => hrow v (List.mem_range.1 hv), sum_perm hpm]
    exact congrArg _ (List.map_congr_left fun k _ => nB_perm hpm _)
  have hsym : ∀ k i, nbB adj (ordN o k) (ordN o i) = nbB adj (ordN o i) (ordN o k) := fun k i => nbB_symm hV _ _
  have hsplit : ∀ k, k < adj.length → nB adj.length (fun i => nbB adj (ordN o k) (ordN o i)) = nB adj.length (fun i => decide (k < i) && nbB adj (ordN o k) (ordN o i)) + nB adj.length (fun i => decide (i < k) && nbB adj (ordN o k) (ordN o i)) := fun k hk => by
    rw [← nB_or]
    · refine nB_congr fun i hi => ?_
      by_cases h1 : k < i
      · simp [h1]
      · by_cases h2 : i < k
        · simp [h2]
        · obtain rfl : i = k := by omega
          have : nbB adj (ordN o i) (ordN o i) = false := by rw [Bool.eq_false_iff]; exact fun h => Nb.ne hV (nbB_iff.1 h) rfl
          simp [this]
    · intro i _ h
      simp only [Bool.and_eq_true, decide_eq_true_eq] at h
      rw [decF (show ¬ i < k by omega)]; rfl
  have hswap : ((List.range adj.length).map fun k => nB adj.length (fun i => decide (i < k) && nbB adj (ordN o k) (ordN o i))).sum = ((List.range adj.length).map fun k => nB adj.length (fun i => decide (k < i) && nbB adj (ordN o k) (ordN o i))).sum := by
    rw [sum_swap (fun k i => decide (i < k) && nbB adj (ordN o k) (ordN o i))]
    refine congrArg _ (List.map_congr_left fun i _ => nB_congr fun j _ => ?_)
    rw [hsym]
  have hdg : ∀ k ∈ List.range adj.length, nB adj.length (fun i => decide (k < i) && nbB adj (ordN o k) (ordN o i)) ≤ dgN adj o k := fun k hk => by
    have hk := List.mem_range.1 hk
    have : dgN adj o k = nB adj.length (fun i => bT adj (ahead o k) (ordN o k) (ordN o i)) := nB_perm hpm _
    rw [this]
    refine nB_mono fun i hi h => ?_
    simp only [Bool.and_eq_true, decide_eq_true_eq] at h
    rw [bT_iff]
    refine ⟨fun e => by have := hp.inj hk hi e; omega, fun ⟨m, hm, e⟩ => by have := hp.inj hk (by omega) e; omega, fun ⟨m, hm, e⟩ => by have := hp.inj hi (by omega) e; omega, .one (nbB_iff.1 h.2)⟩
  have hs := sum_le hdg
  have e2 : ((List.range adj.length).map fun k => nB adj.length (fun i => nbB adj (ordN o k) (ordN o i))).sum = ((List.range adj.length).map fun k => nB adj.length (fun i => decide (k < i) && nbB adj (ordN o k) (ordN o i))).sum + ((List.range adj.length).map fun k => nB adj.length (fun i => decide (k < i) && nbB adj (ordN o k) (ordN o i))).sum := by
    rw [← hswap, hswap, ← sum_addq]
    conv => rhs; rw [sum_addq]
    conv => rhs; rhs; rw [← hswap]
    rw [← sum_addq]
    exact congrArg _ (List.map_congr_left fun k hk => hsplit k (List.mem_range.1 hk))
  rw [e1, e2]
  exact Nat.le_trans (Nat.add_le_add hs hs) (Nat.le_of_eq (Nat.two_mul _).symm)
end
theorem SymbolicFill_true (n : Int) (l o : List Int) : d_sparselaw20q_SymbolicFill (n, l, o, ()) = some (true, ()) := by
  classical
  rw [← Ok.eq_iff]
  unfold d_sparselaw20q_SymbolicFill
  simp only [cond_dec, awake20, Option.bind_some, Place_eq n 13 (by omega) (by omega)]
  refine Ok.ite (fun _ => Ok.some_iff.2 rfl) (fun hl => ?_)
  obtain ⟨m, hm, hm2⟩ := place_nat n 13 (by omega)
  rw [hm]
  refine Ok.bind_of (Graph_ok m l (by omega) (by omega)) ?_
  rintro ⟨⟨adj, ⟨⟩⟩, ⟨⟩⟩ ⟨hal, hV, hx⟩
  simp only at hal hV hx
  subst hal
  refine Ok.bind_of (Shuffle_perm o adj.length (by omega)) ?_
  rintro ⟨p, ⟨⟩⟩ hpm
  simp only at hpm
  have hp := perm_natL hpm
  have hn : adj.length ≤ 12 := by omega
  have hc := hV.hc (show adj.length ≤ 200 by omega)
  have hpe : permE adj p = 0 := perm_iff (by omega) hV hp
  obtain ⟨h1, h2, h3, h4, h5⟩ := ind_facts hpe
  have hpl := hp.1
  have hdg : ∀ k, dgN adj p k ≤ adj.length := fun k => by unfold dgN; exact nB_le _ _
  have hfill : fillV adj p = adj.length + ((List.range adj.length).map (dgN adj p)).sum := by
    unfold fillV
    rw [hpl, List.map_congr_left fun k hk => col_dg hV hp hpm (List.mem_range.1 hk), sum_addq, sum_const]
    omega
  have hedge := edges_le hV hp (by omega) hpm
  generalize hD : ((List.range adj.length).map (dgN adj p)).sum = D at hfill
  have hedge : ((List.range adj.length).map fun v => (adj.getD v []).length).sum ≤ 2 * D := by rw [← hD]; exact hedge
  have hDb : ∀ k, k ≤ adj.length → ((List.range k).map (dgN adj p)).sum ≤ 12 * k := fun k hk => by
    induction k with
    | zero => simp
    | succ k ih => rw [List.range_succ, List.map_append, List.sum_append]; have := hdg k; have := ih (by omega); simp; omega
  have hEb : ∀ k, k ≤ adj.length → ((List.range k).map fun v => (adj.getD v []).length).sum ≤ 12 * k := fun k hk => by
    induction k with
    | zero => simp
    | succ k ih =>
      rw [List.range_succ, List.map_append, List.sum_append]
      have := hx _ (List.getElem_mem (show k < adj.length by omega))
      have := ih (by omega)
      simp only [List.map_cons, List.map_nil, List.sum_cons, List.sum_nil]
      rw [getD_lt (show k < adj.length by omega)]
      omega
  simp only [Fill_eq hc p (fun _ _ => hn) (by omega), Degrees_eq hV hn hp, Option.bind_some, hpe, if_true]
  refine Ok.bind_of (P := fun r => r = (((adj.length + D : Nat) : Int), (adj, ()), ())) ?_ ?_
  · refine Ok.count (fun s => s.2.1) adj.length (fun i s => s = (((adj.length + ((List.range i).map (dgN adj p)).sum : Nat) : Int), (i : Int), (adj, ()), ())) (i0 := 0) rfl rfl (Nat.zero_le _) ?_ ?_
    · rintro i _ _ hi _ rfl
      have := hDb i (by omega)
      have := hdg i
      simp (disch := omega) only [fT_length, cond_dec, if_pos, getI_fT, Option.bind_some, wrap_inc, wrap_add]
      refine Ok.some_iff.2 ⟨rfl, ?_⟩
      rw [List.range_succ, List.map_append, List.sum_append]
      simp only [List.map_cons, List.map_nil, List.sum_cons, List.sum_nil, Nat.add_zero, Nat.add_assoc]
    · rintro _ _ rfl
      simp (disch := omega) only [fT_length, cond_dec, if_neg]
      exact Ok.some_iff.2 (by rw [hD])
  · rintro _ rfl
    refine Ok.bind_of (P := fun r => r = ((((((List.range adj.length).map fun v => (adj.getD v []).length).sum) : Nat) : Int), (adj, ()), ())) ?_ ?_
    · refine Ok.count (fun s => s.2.1) adj.length (fun i s => s = (((((List.range i).map fun v => (adj.getD v []).length).sum : Nat) : Int), (i : Int), (adj, ()), ())) (i0 := 0) rfl rfl (Nat.zero_le _) ?_ ?_
      · rintro i _ _ hi _ rfl
        have h6 := hEb i (by omega)
        have h7 := hx _ (List.getElem_mem hi)
        simp (disch := omega) only [cond_dec, if_pos, getN_some (List.getElem?_eq_getElem hi), Option.bind_some, wrap_inc, wrap_add]
        refine Ok.some_iff.2 ⟨rfl, ?_⟩
        rw [List.range_succ, List.map_append, List.sum_append]
        simp only [List.map_cons, List.map_nil, List.sum_cons, List.sum_nil, Nat.add_zero]
        rw [getD_lt hi]
      · rintro _ _ rfl
        simp (disch := omega) only [cond_dec, if_neg]
        exact Ok.some_iff.2 rfl
    · rintro _ rfl
      simp only [Relabel_eq hc p (fun _ _ => hn) (by omega), hpe, if_true, Option.bind_some, counts_any h5, if_pos h4, h4]
      have hsl := sum_loop (fromT (indT adj p)).length (fun j => (colV (fromT (indT adj p)) j).length) (by omega) (fun j => by have := colK_length (fromT (indT adj p)) j (fromT (indT adj p)).length; unfold colV; omega)
      simp only [cond_dec] at hsl
      rw [hsl]
      have hcnt : ((List.range (fromT (indT adj p)).length).map fun j => (colV (fromT (indT adj p)) j).length).sum = fillV adj p := by rw [h1]; rfl
      have hD2 := hDb adj.length (by omega)
      have hE2 := hEb adj.length (by omega)
      rw [hD] at hD2
      simp only [hcnt, hfill, Option.bind_some, fT_length, beq_self_eq_true, cond_true, awake20]
      generalize ((List.range adj.length).map fun v => (adj.getD v []).length).sum = X at *
      rw [show IntKind.i64.wrap (2 * ((adj.length + D : Nat) : Int)) = ((2 * (adj.length + D) : Nat) : Int) by rw [wrap64] <;> omega,
        show IntKind.i64.wrap (2 * ((adj.length : Nat) : Int)) = ((2 * adj.length : Nat) : Int) by rw [wrap64] <;> omega, wrap_add (by omega), decT (by omega)]
      exact Ok.some_iff.2 rfl
end Go.Fw
end
