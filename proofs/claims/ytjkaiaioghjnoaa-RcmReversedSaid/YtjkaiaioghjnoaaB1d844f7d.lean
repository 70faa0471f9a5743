/-
  Parts of the proof: Pl42, Pl43, Pl44, Pl45, Pl46, Pl47, Pl48, Pl49, Pl50, Pl51, Ev17, Pl54, Pl55: the framework (Fw), pure forms (Dn), plain laws (Pl, Th), calls of functions (Ok).
-/
import Derived.Test.YtjkaiaioghjnoaaBfa94d0a6

set_option linter.all false
section
namespace Go.Fw
set_option linter.unusedSimpArgs false
set_option linter.unusedVariables false
open Go
def IsPerm (l : List Int) (n : Nat) : Prop := l.length = n ∧ (∀ x ∈ l, 0 ≤ x ∧ x < (n : Int)) ∧ l.Nodup
noncomputable def permE (adj : List (List Int)) (o : List Int) : Int := open Classical in if chk adj ≠ 0 then chk adj else if o.length ≠ adj.length then 2 else if IsPerm o adj.length then 0 else 90
theorem vertex_eq (adj : List (List Int)) (v : Int) : d_graph_vertex ((adj, ()), v, ()) = some (decide (0 ≤ v ∧ v < (adj.length : Int)), ()) := by
  unfold d_graph_vertex
  simp only [cond_dec_beq]
  by_cases h : v ≥ 0
  · rw [if_pos h]
    congr 2
    exact decide_eq_decide.2 ⟨fun h2 => ⟨h, h2⟩, fun h2 => h2.2⟩
  · rw [if_neg h, decF (fun h2 => h h2.1)]
theorem outside_eq (adj : List (List Int)) (o : List Int) (ho : o.length < 4611686018427387904) : d_slices_ContainsFunc_int_int_q0 (o, ((some (adj, ())), ()), ()) = some (decide (¬ ∀ x ∈ o, 0 ≤ x ∧ x < (adj.length : Int)), ()) := by
  classical
  unfold d_slices_ContainsFunc_int_int_q0 d_slices_IndexFunc_int_int_q0
  simp only []
  rw [← Ok.eq_iff]
  have hall : (∀ x ∈ o, 0 ≤ x ∧ x < (adj.length : Int)) ↔ ∀ i, i < o.length → ∀ h : i < o.length, 0 ≤ o[i] ∧ o[i] < (adj.length : Int) :=
    ⟨fun h i _ hi => h _ (List.getElem_mem hi), fun h x hx => by obtain ⟨i, hi, rfl⟩ := List.mem_iff_getElem.1 hx; exact h i hi hi⟩
  refine Ok.bind_of (P := fun r => decide (r.1 ≥ 0) = decide (¬ ∀ x ∈ o, 0 ≤ x ∧ x < (adj.length : Int))) ?_ (fun r hr => Ok.some_iff.2 (by rw [hr]))
  refine Ok.bind_of (loop_index o.length (fun i => ∀ h : i < o.length, 0 ≤ o[i] ∧ o[i] < (adj.length : Int)) ?_ ?_) ?_
  · intro i hi
    simp (disch := omega) only [cond_dec, if_pos, getN_some (List.getElem?_eq_getElem hi), Option.bind_some, wrap_inc]
    unfold d_graph_Permuted_1q_q0
    simp only [Option.bind_some, vertex_eq]
    by_cases h : 0 ≤ o[i] ∧ o[i] < (adj.length : Int)
    · rw [decT h, if_pos (fun _ => h)]; rfl
    · rw [decF h, if_neg (fun h2 => h (h2 hi))]; rfl
  · simp (disch := omega) only [cond_dec, if_neg]
  · rintro (q | q) hq
    · refine Ok.some_iff.2 ?_
      rw [decF (by decide), decF (fun h => h (hall.2 hq))]
    · refine Ok.some_iff.2 ?_
      rw [decT (show q.1 ≥ 0 from hq.1), decT (show ¬ ∀ x ∈ o, 0 ≤ x ∧ x < (adj.length : Int) from fun h => hq.2 (hall.1 h))]
theorem Permuted_eq {adj : List (List Int)} (hc : ∀ l ∈ adj, l.length < 4611686018427387904) (o : List Int) (ho : adj.length ≤ 200 → Valid adj → adj.length ≤ 12) (ho2 : o.length < 4611686018427387904) :
    d_graph_Permuted ((adj, ()), o, ()) = some (permE adj o, ()) := by
  classical
  unfold d_graph_Permuted permE
  simp only [Check_eq adj hc, Option.bind_some, bneI]
  by_cases h0 : chk adj = 0
  · obtain ⟨hn, hV⟩ := chk_zero.1 h0
    have h12 := ho hn hV
    rw [decT h0]
    simp only [Bool.not_true, cond_false, h0, ne_eq, not_true_eq_false, if_false]
    by_cases hl : o.length = adj.length
    · rw [decT (show (((o.length : Nat) : Int) = ((adj.length : Nat) : Int)) by omega)]
      simp only [Bool.not_true, cond_false, hl, not_true_eq_false, if_false]
      rw [outside_eq adj o ho2]
      simp only [Option.bind_some]
      by_cases h1 : ∀ x ∈ o, 0 ≤ x ∧ x < (adj.length : Int)
      · rw [decF (not_not_intro h1)]
        simp only [beq_self_eq_true, cond_true]
        rw [twice_eq o (by omega)]
        simp only [Option.bind_some, cond_dec]
        by_cases h2 : o.Nodup
        · rw [if_neg (not_not_intro h2), if_pos ⟨hl, h1, h2⟩]
        · rw [if_pos h2, if_neg (fun h => h2 h.2.2)]
      · rw [decT h1, if_neg (fun h => h1 h.2.1)]
        rfl
    · rw [decF (show ¬ (((o.length : Nat) : Int) = ((adj.length : Nat) : Int)) by omega)]
      simp only [Bool.not_false, cond_true, hl, not_false_eq_true, if_true]
  · rw [decF h0]
    simp only [Bool.not_false, cond_true, h0, ne_eq, not_false_eq_true, if_true]
end Go.Fw
end

section
namespace Go.Fw
set_option linter.unusedSimpArgs false
set_option linter.unusedVariables false
open Go
def indJ (adj : List (List Int)) (l : List Int) (a b : Nat) : Bool := decide (l.getD b 0 ∈ adj.getD (l.getD a 0).toNat [])
theorem indJ_symm {adj : List (List Int)} (hV : Valid adj) {l : List Int} (hl : ∀ x ∈ l, 0 ≤ x ∧ x < (adj.length : Int)) {a b : Nat} (ha : a < l.length) (hb : b < l.length) : indJ adj l a b = indJ adj l b a := by
  have h1 := hl _ (List.getElem_mem ha)
  have h2 := hl _ (List.getElem_mem hb)
  have one : ∀ x y : Int, 0 ≤ x ∧ x < (adj.length : Int) → 0 ≤ y ∧ y < (adj.length : Int) → y ∈ adj.getD x.toNat [] → x ∈ adj.getD y.toNat [] := fun x y hx hy h => by
    obtain ⟨u, rfl⟩ : ∃ u : Nat, x = (u : Int) := ⟨x.toNat, by omega⟩
    obtain ⟨v, rfl⟩ : ∃ v : Nat, y = (v : Int) := ⟨y.toNat, by omega⟩
    simp only [Int.toNat_natCast] at h ⊢
    have hu : u < adj.length := by omega
    have hv : v < adj.length := by omega
    rw [getD_lt hu] at h
    obtain ⟨_, h3⟩ := Nb.symm hV u v ⟨hu, h⟩
    rw [getD_lt hv]; exact h3
  unfold indJ
  rw [getD_lt ha, getD_lt hb]
  exact decide_eq_decide.2 ⟨one _ _ h1 h2, one _ _ h2 h1⟩
theorem gT_ind {adj : List (List Int)} (hV : Valid adj) {l : List Int} (hl : ∀ x ∈ l, 0 ≤ x ∧ x < (adj.length : Int)) : gT l.length (fun a b => decide (a ≠ b) && indJ adj l a b) = fromT (indT adj l) := by
  unfold gT fromT
  rw [indT_length]
  refine List.map_congr_left fun v hv => ?_
  have hv := List.mem_range.1 hv
  unfold natL lineT
  refine congrArg _ (List.filter_congr fun w hw => ?_)
  have hw := List.mem_range.1 hw
  rw [bit_indT hv hw, bit_indT hw hv]
  have := indJ_symm hV hl hv hw
  unfold indJ at this ⊢
  rw [← this, Bool.or_self]
  by_cases h : v = w <;> simp [h]
theorem induced_eq {adj : List (List Int)} (hV : Valid adj) (hc : ∀ l ∈ adj, l.length < 4611686018427387904) {l : List Int} (hl : ∀ x ∈ l, 0 ≤ x ∧ x < (adj.length : Int)) (hll : l.length ≤ 400) :
    d_graph_induced ((adj, ()), l, ()) = some ((fromT (indT adj l), ()), ()) := by
  generalize hn : l.length = n at *
  let B : Nat → Nat → Nat → Nat → Bool := fun i j a b => decide (a ≠ b) && (indJ adj l a b && ((decide (a < i) && decide (b < i)) || ((decide (a = i) && decide (b < j)) || (decide (b = i) && decide (a < j)))))
  unfold d_graph_induced
  simp only [hn]
  rw [NewSets_eq n (by omega)]
  simp only [Option.bind_some]
  refine bind_eq (y := (([], ()), mT n (B n 0), ())) (loop_for n (fun i => (([], ()), mT n (B i 0), ())) 0 rfl ?_ (Nat.zero_le _) ?_ ?_) ?_
  · refine congrArg (fun t => (([], ()), t, ())) (mT_congr fun a b _ _ => ?_)
    simp [B]
  · intro i _ hi
    have hil : i < l.length := by omega
    have hg : getI l (i : Int) = some l[i] := getN_some (List.getElem?_eq_getElem hil)
    have h1 := hl _ (List.getElem_mem hil)
    obtain ⟨v, hv⟩ : ∃ v : Nat, l[i] = (v : Int) := ⟨l[i].toNat, by omega⟩
    have hvn : v < adj.length := by omega
    simp (disch := omega) only [cond_dec, if_pos, hg, Option.bind_some, natO_ok, hn, leO_ok, Option.map_some, hv, List.drop_zero]
    have hlen : (l.take i).length = i := by rw [List.length_take]; omega
    refine bind_eq (y := (([], ()), mT n (B i i), ())) (loop_for i (fun j => (([], ()), mT n (B i j), ())) 0 rfl rfl (Nat.zero_le _) ?_ ?_) ?_
    · intro j _ hj
      have hjl : j < l.length := by omega
      have hg2 : getI (l.take i) (j : Int) = some l[j] := getN_some (by rw [List.getElem?_take_of_lt hj]; exact List.getElem?_eq_getElem hjl)
      simp (disch := omega) only [hlen, cond_dec, if_pos, hg2, Option.bind_some, wrap_inc]
      rw [joined_eq adj v l[j] hvn (hc _ (List.getElem_mem hvn)) ((Valid_iff adj).1 hV v hvn).1]
      simp only [Option.bind_some, cond_dec]
      have hJ : indJ adj l i j = decide (l[j] ∈ adj[v]) := by
        unfold indJ
        rw [getD_lt hil, getD_lt hjl, hv, Int.toNat_natCast, getD_lt hvn]
      have hJ2 : indJ adj l j i = decide (l[j] ∈ adj[v]) := by rw [← hJ]; exact indJ_symm hV (by simpa [hn] using hl) hjl hil
      by_cases h : l[j] ∈ adj[v]
      · rw [if_pos h, Join_eq hi (by omega)]
        simp only [Option.bind_some]
        refine congrArg (fun t => some (Sum.inl (((j + 1 : Nat) : Int), ([], ()), t, ()))) (mT_congr fun a b _ _ => ?_)
        rw [decT h] at hJ hJ2
        simp only [B]
        rw [Bool.eq_iff_iff]
        simp only [Bool.or_eq_true, Bool.and_eq_true, decide_eq_true_eq]
        constructor
        · rintro (⟨h1, h2, h3⟩ | ⟨h1, ⟨rfl, rfl⟩ | ⟨rfl, rfl⟩⟩)
          · exact ⟨h1, h2, by omega⟩
          · exact ⟨by omega, hJ, by omega⟩
          · exact ⟨by omega, hJ2, by omega⟩
        · rintro ⟨h1, h2, h3⟩
          by_cases c : (a = i ∧ b = j) ∨ (a = j ∧ b = i)
          · exact .inr ⟨by omega, c⟩
          · exact .inl ⟨h1, h2, by omega⟩
      · rw [if_neg h]
        simp only [Option.bind_some]
        refine congrArg (fun t => some (Sum.inl (((j + 1 : Nat) : Int), ([], ()), t, ()))) (mT_congr fun a b _ _ => ?_)
        rw [decF h] at hJ hJ2
        simp only [B]
        rw [Bool.eq_iff_iff]
        simp only [Bool.or_eq_true, Bool.and_eq_true, decide_eq_true_eq]
        constructor
        · rintro ⟨h1, h2, h3⟩; exact ⟨h1, h2, by omega⟩
        · rintro ⟨h1, h2, h3⟩
          refine ⟨h1, h2, ?_⟩
          by_cases c1 : a = i ∧ b = j
          · rw [c1.1, c1.2, hJ] at h2; cases h2
          · by_cases c2 : a = j ∧ b = i
            · rw [c2.1, c2.2, hJ2] at h2; cases h2
            · omega
    · simp (disch := omega) only [hlen, cond_dec, if_neg]
    · simp (disch := omega) only [wrap_inc]
      refine congrArg (fun t => some (Sum.inl (((i + 1 : Nat) : Int), ([], ()), t, ()))) (mT_congr fun a b _ _ => ?_)
      simp only [B]
      rw [Bool.eq_iff_iff]
      simp only [Bool.or_eq_true, Bool.and_eq_true, decide_eq_true_eq]
      constructor
      · rintro ⟨h1, h2, h3⟩; exact ⟨h1, h2, by omega⟩
      · rintro ⟨h1, h2, h3⟩; exact ⟨h1, h2, by omega⟩
  · simp (disch := omega) only [cond_dec, if_neg]
  · rw [Graph_eq (by omega)]
    simp only [Option.bind_some]
    have e : gT n (B n 0) = gT n (fun a b => decide (a ≠ b) && indJ adj l a b) := by
      refine fT_congr fun v hv => congrArg natL (List.filter_congr fun w hw => ?_)
      have hw := List.mem_range.1 hw
      simp [B, hv, hw]
    rw [e, ← hn, gT_ind hV (by simpa [hn] using hl)]
theorem Relabel_eq {adj : List (List Int)} (hc : ∀ l ∈ adj, l.length < 4611686018427387904) (o : List Int) (ho : adj.length ≤ 200 → Valid adj → adj.length ≤ 12) (ho2 : o.length < 4611686018427387904) :
    d_graph_Relabel ((adj, ()), o, ()) = some (if permE adj o = 0 then ((fromT (indT adj o), ()), 0, ()) else (([], ()), permE adj o, ())) := by
  classical
  unfold d_graph_Relabel
  simp only [Permuted_eq hc o ho ho2, Option.bind_some, bneI]
  by_cases h : permE adj o = 0
  · rw [decT h, if_pos h]
    simp only [Bool.not_true, cond_false]
    have h0 : chk adj = 0 := by
      by_cases hz : chk adj = 0
      · exact hz
      · unfold permE at h; rw [if_pos hz] at h; exact absurd h hz
    obtain ⟨hn, hV⟩ := chk_zero.1 h0
    have hp : IsPerm o adj.length := by
      unfold permE at h
      rw [if_neg (not_not_intro h0)] at h
      by_cases hl : o.length = adj.length
      · rw [if_neg (not_not_intro hl)] at h
        by_cases hp : IsPerm o adj.length
        · exact hp
        · rw [if_neg hp] at h; omega
      · rw [if_pos hl] at h; omega
    rw [induced_eq hV hc hp.2.1 (by have := hp.1; omega)]
    rfl
  · rw [decF h, if_neg h]
    rfl
end Go.Fw
end

section
namespace Go.Fw
set_option linter.unusedSimpArgs false
set_option linter.unusedVariables false
open Go
section
variable {adj : List (List Int)} (hc : ∀ l ∈ adj, l.length < 4611686018427387904)
include hc
end
theorem perm_of {adj : List (List Int)} {o : List Int} (h : permE adj o = 0) : adj.length ≤ 200 ∧ Valid adj ∧ IsPerm o adj.length := by
  classical
  have h0 : chk adj = 0 := by
    by_cases hz : chk adj = 0
    · exact hz
    · unfold permE at h; rw [if_pos hz] at h; exact absurd h hz
  obtain ⟨hn, hV⟩ := chk_zero.1 h0
  refine ⟨hn, hV, ?_⟩
  unfold permE at h
  rw [if_neg (not_not_intro h0)] at h
  by_cases hl : o.length = adj.length
  · rw [if_neg (not_not_intro hl)] at h
    by_cases hp : IsPerm o adj.length
    · exact hp
    · rw [if_neg hp] at h; omega
  · rw [if_pos hl] at h; omega
theorem perm_iff {adj : List (List Int)} {o : List Int} (hn : adj.length ≤ 200) (hV : Valid adj) (hp : IsPerm o adj.length) : permE adj o = 0 := by
  unfold permE
  rw [if_neg (not_not_intro (chk_zero.2 ⟨hn, hV⟩)), if_neg (not_not_intro hp.1), if_pos hp]
theorem ind_facts {adj : List (List Int)} {o : List Int} (h : permE adj o = 0) : (fromT (indT adj o)).length = o.length ∧ o.length ≤ 200 ∧ Valid (fromT (indT adj o)) ∧ chk (fromT (indT adj o)) = 0 ∧ ∀ l ∈ fromT (indT adj o), l.length < 4611686018427387904 := by
  obtain ⟨hn, hV, hp⟩ := perm_of h
  have h1 : (fromT (indT adj o)).length = o.length := by rw [fromT_length, indT_length]
  have h2 : o.length ≤ 200 := by have := hp.1; omega
  have h3 := fromT_valid (indT adj o)
  exact ⟨h1, h2, h3, chk_zero.2 ⟨by omega, h3⟩, h3.hc (by omega)⟩
end Go.Fw
end

section
namespace Go.Fw
set_option linter.unusedSimpArgs false
set_option linter.unusedVariables false
open Go
theorem perm_natL {o : List Int} {n : Nat} (h : o.Perm (natL (List.range n))) : IsPerm o n := by
  refine ⟨by rw [h.length_eq, natL_length, List.length_range], fun x hx => ?_, ?_⟩
  · obtain ⟨y, hy, rfl⟩ := List.mem_map.1 (h.mem_iff.1 hx)
    have := List.mem_range.1 hy; omega
  · rw [h.nodup_iff]
    exact List.Pairwise.map _ (fun a b hab e => hab (by omega)) List.nodup_range
theorem Shuffle_perm (l : List Int) (n : Nat) (hn : n ≤ 4000) : Ok (d_sparsekit_Shuffle (l, (n : Int), ())) (fun r => r.1.Perm (natL (List.range n))) := by
  unfold d_sparsekit_Shuffle
  simp only []
  have h1 : loop (σ := (Int × (List Int) × Unit)) (ρ := ((List Int) × Unit)) (fun (i_6, left_7, _) =>
      (bif (decide (i_6 < (n : Int))) then (
      (limO ((left_7).length + ([i_6]).length)).bind fun _ =>
      some (.inl ((IntKind.i64.wrap (i_6 + ((1) : Int))), (left_7 ++ [i_6]), ()))) else (
      some (.inr (left_7, ()))))) (((0) : Int), [], ()) = some (natL (List.range n), ()) := by
    refine loop_for n (fun i => (natL (List.range i), ())) 0 rfl rfl (Nat.zero_le _) ?_ ?_
    · intro i _ hi
      have : natL (List.range (i + 1)) = natL (List.range i) ++ [(i : Int)] := by rw [List.range_succ, natL_append]; rfl
      have hl : (natL (List.range i)).length + [((i : Nat) : Int)].length ≤ 4294967296 := by rw [natL_length, List.length_range]; simp only [List.length_singleton]; omega
      simp (disch := omega) only [cond_dec, if_pos, limO_ok hl, Option.bind_some, wrap_inc, this]
    · simp (disch := omega) only [cond_dec, if_neg]
  rw [h1]
  simp only [Option.bind_some]
  refine Ok.bind_of (P := fun r => r.1.Perm (natL (List.range n))) ?_ (fun r hr => Ok.some_iff.2 hr)
  refine Ok.for n (fun k t => t.1.length + k = n ∧ (t.1 ++ t.2.1).Perm (natL (List.range n))) (i0 := 0) rfl ⟨by rw [natL_length, List.length_range]; omega, by rw [List.append_nil]⟩ (Nat.zero_le _) ?_ ?_
  · rintro k ⟨left, out, ⟨⟩⟩ _ hk ⟨hlen, hP⟩
    have hpl := hP.length_eq
    rw [natL_length, List.length_range, List.length_append] at hpl
    dsimp only at hlen hpl
    simp (disch := omega) only [cond_dec, if_pos]
    refine Ok.bind_of (P := fun q => q.1.length + (k + 1) = n ∧ (q.1 ++ q.2.1).Perm (natL (List.range n))) ?_ ?_
    · refine Ok.bind_of (P := fun q => ∃ at' : Nat, q = ((at' : Int), left, out, ()) ∧ at' < left.length) ?_ ?_
      · refine Ok.ite (fun h => ?_) (fun h => Ok.some_iff.2 ⟨0, rfl, by omega⟩)
        have hkl : k < l.length := by omega
        rw [getN_some (List.getElem?_eq_getElem hkl)]
        simp only [Option.bind_some]
        rw [Place_eq _ _ (by omega) (by omega)]
        simp only [Option.bind_some]
        obtain ⟨m, hm, hm2⟩ := place_nat l[k] (left.length : Int) (by omega)
        exact Ok.some_iff.2 ⟨m, by rw [hm], by omega⟩
      · rintro _ ⟨m, rfl, hm⟩
        have hat : left[m]? = some left[m] := List.getElem?_eq_getElem hm
        have e1 : left = left.take m ++ left[m] :: left.drop (m + 1) := by rw [List.getElem_cons_drop, List.take_append_drop]
        have l1 : (left.take m).length = m := by rw [List.length_take]; omega
        have l2 : (left.drop (m + 1)).length = left.length - (m + 1) := List.length_drop ..
        simp (disch := omega) only [idxN_nat, Option.bind_some, atO_some hat, List.length_singleton, limO_ok, natO_ok, leO_ok, posO_ok, Option.map_some, wrap_inc, List.drop_zero, List.take_length, l1, l2]
        refine Ok.some_iff.2 ⟨?_, ?_⟩
        · simp only [List.length_append, l1, l2]; omega
        · refine List.Perm.trans ?_ hP
          conv => rhs; rw [e1]
          simp only [List.append_assoc, List.cons_append]
          refine List.Perm.append_left _ ?_
          rw [← List.append_assoc]
          exact List.perm_append_singleton _ _
    · rintro ⟨left2, out2, ⟨⟩⟩ hq
      simp (disch := omega) only [wrap_inc]
      exact Ok.some_iff.2 ⟨rfl, hq⟩
  · rintro ⟨left, out, ⟨⟩⟩ ⟨hlen, hP⟩
    dsimp only at hlen hP
    simp (disch := omega) only [cond_dec, if_neg]
    have : left = [] := List.eq_nil_of_length_eq_zero (by omega)
    subst this
    exact Ok.some_iff.2 (by simpa using hP)
theorem Shuffle_ok (l : List Int) (n : Nat) (hn : n ≤ 4000) : Ok (d_sparsekit_Shuffle (l, (n : Int), ())) (fun r => IsPerm r.1 n) := (Shuffle_perm l n hn).mono fun r h => perm_natL h
end Go.Fw
end

section
namespace Go.Fw
set_option linter.unusedSimpArgs false
set_option linter.unusedVariables false
open Go
def ordN (o : List Int) (k : Nat) : Nat := (o.getD k 0).toNat
theorem IsPerm.get {o : List Int} {n : Nat} (h : IsPerm o n) {k : Nat} (hk : k < n) : getI o (k : Int) = some ((ordN o k : Nat) : Int) ∧ ordN o k < n := by
  have hl : k < o.length := by rw [h.1]; exact hk
  have h1 := h.2.1 _ (List.getElem_mem hl)
  have h2 : ordN o k = o[k].toNat := by unfold ordN; rw [getD_lt hl]
  exact ⟨by rw [getN_some (List.getElem?_eq_getElem hl), h2]; congr 1; omega, by omega⟩
theorem IsPerm.inj {o : List Int} {n : Nat} (h : IsPerm o n) {j k : Nat} (hj : j < n) (hk : k < n) (e : ordN o j = ordN o k) : j = k := by
  have hjl : j < o.length := by rw [h.1]; exact hj
  have hkl : k < o.length := by rw [h.1]; exact hk
  have h1 := h.2.1 _ (List.getElem_mem hjl)
  have h2 := h.2.1 _ (List.getElem_mem hkl)
  unfold ordN at e
  rw [getD_lt hjl, getD_lt hkl] at e
  exact (List.getElem_inj h.2.2).1 (by omega)
end Go.Fw
end

section
namespace Go.Fw
set_option linter.unusedSimpArgs false
set_option linter.unusedVariables false
open Go
section
variable {adj : List (List Int)} (hV : Valid adj) {o : List Int} (hp : IsPerm o adj.length)
include hV hp
theorem nb_ind {a b : Nat} (ha : a < adj.length) (hb : b < adj.length) : Nb (fromT (indT adj o)) a b ↔ Nb adj (ordN o a) (ordN o b) := by
  have ha' : a < o.length := by rw [hp.1]; exact ha
  have hb' : b < o.length := by rw [hp.1]; exact hb
  rw [Nb_ind hV hp.2.1 hp.2.2]
  unfold ordN
  rw [getD_lt ha', getD_lt hb']
  exact ⟨fun ⟨_, _, h⟩ => h, fun h => ⟨ha', hb', h⟩⟩
end
end Go.Fw
end

section
namespace Go.Fw
set_option linter.unusedSimpArgs false
set_option linter.unusedVariables false
open Go
theorem nodup_le : ∀ {n : Nat} {l : List Nat}, l.Nodup → (∀ x ∈ l, x < n) → l.length ≤ n := by
  intro n
  induction n with
  | zero => intro l _ h; cases l with
    | nil => exact Nat.le_refl _
    | cons a l => exact absurd (h a (List.mem_cons_self ..)) (by omega)
  | succ n ih =>
    intro l hd h
    have h1 : (l.erase n).Nodup := hd.erase n
    have h2 : ∀ x ∈ l.erase n, x < n := fun x hx => by
      have h3 := h x (List.mem_of_mem_erase hx)
      have h4 : x ≠ n := fun e => by subst e; exact (hd.mem_erase_iff.1 hx).1 rfl
      omega
    have h3 := ih h1 h2
    by_cases hm : n ∈ l
    · rw [List.length_erase_of_mem hm] at h3; omega
    · rw [List.erase_of_not_mem hm] at h3; omega
theorem mem_natL {l : List Nat} {x : Nat} : (x : Int) ∈ natL l ↔ x ∈ l := by
  unfold natL
  rw [List.mem_map]
  constructor
  · rintro ⟨y, h1, h2⟩
    obtain rfl : y = x := by omega
    exact h1
  · exact fun h => ⟨x, h, rfl⟩
theorem natL_nodup {l : List Nat} (h : l.Nodup) : (natL l).Nodup := by
  unfold natL
  rw [List.nodup_iff_pairwise_ne, List.pairwise_map]
  exact (List.nodup_iff_pairwise_ne.1 h).imp fun h e => h (by omega)
section
variable {adj : List (List Int)} (hV : Valid adj)
include hV
theorem nb_get {v j : Nat} (hv : v < adj.length) (hj : j < adj[v].length) : ∃ w : Nat, adj[v][j] = (w : Int) ∧ w < adj.length := by
  have hr := (hV.asc v hv).2 _ (List.getElem_mem hj)
  exact ⟨adj[v][j].toNat, by omega, by omega⟩
omit hV in
theorem take_mem_succ {l : List Int} {j w : Nat} (hj : j < l.length) (hw : l[j] = (w : Int)) (x : Nat) : (x : Int) ∈ l.take (j + 1) ↔ (x : Int) ∈ l.take j ∨ x = w := by
  rw [← take_snoc hj, List.mem_append, List.mem_singleton, hw]
  exact ⟨fun h => h.imp id (fun h => by omega), fun h => h.imp id (fun h => by omega)⟩
end
end Go.Fw
end

section
namespace Go.Fw
set_option linter.unusedSimpArgs false
set_option linter.unusedVariables false
open Go
theorem Ok.seq {σ ρ : Type} {f : σ → Option (σ ⊕ ρ)} {Q : ρ → Prop} {s0 : σ} (n : Nat) (I : Nat → σ → Prop) (i0 : Nat) (h0 : I i0 s0) (hi : i0 ≤ n)
    (hstep : ∀ i s, i0 ≤ i → i < n → I i s → Ok (f s) (fun | .inl s' => I (i + 1) s' | .inr r => Q r))
    (hend : ∀ s, I n s → Ok (f s) (fun | .inl _ => False | .inr r => Q r)) : Ok (Fw.loop f s0) Q := by
  obtain ⟨d, hd⟩ : ∃ d, n = i0 + d := ⟨n - i0, by omega⟩
  induction d generalizing i0 s0 with
  | zero =>
    obtain rfl : n = i0 := by omega
    rw [loop_unfold]
    obtain ⟨y, hy, hq⟩ := hend s0 h0
    rw [hy]
    cases y with
    | inl => exact hq.elim
    | inr r => exact Ok.some_iff.2 hq
  | succ d ih =>
    rw [loop_unfold]
    obtain ⟨y, hy, hq⟩ := hstep i0 s0 (Nat.le_refl _) (by omega) h0
    rw [hy]
    cases y with
    | inl s' => exact ih (i0 + 1) hq (by omega) (fun i s h => hstep i s (by omega)) (by omega)
    | inr r => exact Ok.some_iff.2 hq
theorem loop_seq {σ ρ : Type} {f : σ → Option (σ ⊕ ρ)} {r : ρ} {s0 : σ} (n : Nat) (I : Nat → σ) (i0 : Nat) (hs : s0 = I i0) (hi : i0 ≤ n)
    (hstep : ∀ i, i0 ≤ i → i < n → f (I i) = some (.inl (I (i + 1)))) (hend : f (I n) = some (.inr r)) : loop f s0 = some r := by
  rw [← Ok.eq_iff]
  refine Ok.seq n (fun i s => s = I i) i0 hs hi ?_ ?_
  · rintro i _ h1 h2 rfl
    rw [hstep i h1 h2]
    exact Ok.some_iff.2 rfl
  · rintro _ rfl
    rw [hend]
    exact Ok.some_iff.2 rfl
theorem bindR {α β : Type} {x : Option α} {g : α → Option β} {r : Option β} (y : α) (h2 : g y = r) (h : x = some y) : x.bind g = r := by rw [h]; exact h2
section
variable {adj : List (List Int)} (hV : Valid adj)
include hV
end
end Go.Fw
end

section
namespace Go.Fw
set_option linter.unusedSimpArgs false
set_option linter.unusedVariables false
open Go
def dgV (adj : List (List Int)) (x : Int) : Nat := (adj.getD x.toNat []).length
section
variable {adj : List (List Int)} (hV : Valid adj) (hn : adj.length ≤ 200)
include hV hn
end
end Go.Fw
end

section
namespace Go.Fw
set_option linter.unusedSimpArgs false
set_option linter.unusedVariables false
open Go
def lexI (adj : List (List Int)) (x y : Int) : Prop := dgV adj x < dgV adj y ∨ (dgV adj x = dgV adj y ∧ x < y)
instance (adj : List (List Int)) (x y : Int) : Decidable (lexI adj x y) := by unfold lexI; exact inferInstance
end Go.Fw
end

section
namespace Go.Fw
noncomputable def e_math_bits_Len64 (n_ : Nat) : (Int × Unit) → Option (Int × Unit) := fun (x_1, _) =>
  Option.bind (α := (Int × Int × Unit)) (
  (bif (decide (x_1 ≥ ((4294967296) : Int))) then (
  (shrO IntKind.u64 x_1 ((32) : Int)).bind fun y2 =>
  some (y2, ((32) : Int), ())) else (
  some (x_1, ((0) : Int), ())))) fun (x_3, n_4, _) =>
  Option.bind (α := (Int × Int × Unit)) (
  (bif (decide (x_3 ≥ ((65536) : Int))) then (
  (shrO IntKind.u64 x_3 ((16) : Int)).bind fun y5 =>
  some (y5, (IntKind.i64.wrap (n_4 + ((16) : Int))), ())) else (
  some (x_3, n_4, ())))) fun (x_6, n_7, _) =>
  Option.bind (α := (Int × Int × Unit)) (
  (bif (decide (x_6 ≥ ((256) : Int))) then (
  (shrO IntKind.u64 x_6 ((8) : Int)).bind fun y8 =>
  some (y8, (IntKind.i64.wrap (n_7 + ((8) : Int))), ())) else (
  some (x_6, n_7, ())))) fun (x_9, n_10, _) =>
  (strI lenTab (IntKind.u8.wrap x_9)).bind fun c11 =>
  some ((IntKind.i64.wrap (n_10 + (IntKind.i64.wrap c11))), ())
set_option maxHeartbeats 4000000 in
theorem le_math_bits_Len64 (n_ : Nat) (a : (Int × Unit)) : Le (e_math_bits_Len64 n_ a) (d_math_bits_Len64 a) := by
  unfold e_math_bits_Len64 d_math_bits_Len64
  repeat' (first | with_reducible exact Le.refl _  | (with_reducible refine Le.bind ?_ (fun y => ?_)) | (with_reducible refine Le.bif ?_ ?_) | (with_reducible refine Le.loop (fun s => ?_) _ _) | (with_reducible refine Le.atO (fun e => ?_)) | split)
noncomputable def e_math_bits_Len (n_ : Nat) : (Int × Unit) → Option (Int × Unit) := fun (x_1, _) =>
  (e_math_bits_Len64 n_ (x_1, ())).bind fun (r2, _) =>
  some (r2, ())
set_option maxHeartbeats 4000000 in
theorem le_math_bits_Len (n_ : Nat) (a : (Int × Unit)) : Le (e_math_bits_Len n_ a) (d_math_bits_Len a) := by
  unfold e_math_bits_Len d_math_bits_Len
  repeat' (first | with_reducible exact Le.refl _ | with_reducible exact le_math_bits_Len64 _ _ | (with_reducible refine Le.bind ?_ (fun y => ?_)) | (with_reducible refine Le.bif ?_ ?_) | (with_reducible refine Le.loop (fun s => ?_) _ _) | (with_reducible refine Le.atO (fun e => ?_)) | split)
noncomputable def e_slices_insertionSortOrdered_int (n_ : Nat) : ((List Int) × Int × Int × Unit) → Option ((List Int) × Unit) := fun (data_1, a_2, b_3, _) =>
  (loopN (σ := (Int × (List Int) × Unit)) (ρ := ((List Int) × Unit)) (fun (i_4, data_5, _) =>
  (bif (decide (i_4 < b_3)) then (
  (loopN (σ := (Int × (List Int) × Unit)) (ρ := ((List Int) × Unit)) (fun (j_6, data_7, _) =>
  Option.bind (α := ((List Int) × Unit) ⊕ ((Int × (List Int) × Unit) ⊕ ((List Int) × Unit))) (
  (bif ((decide (j_6 > a_2)) == true) then ((idxN (data_7).length j_6).bind fun k8 =>
  ((atO data_7 k8 fun e9 => some e9)).bind fun y10 =>
  (idxN (data_7).length (IntKind.i64.wrap (j_6 - ((1) : Int)))).bind fun k11 =>
  ((atO data_7 k11 fun e12 => some e12)).bind fun y13 =>
  (e_cmp_Less_int n_ (y10, y13, ())).bind fun (r14, _) =>
  (bif r14 then (
  some (.inl (data_7, ()))) else (
  some (.inr (.inr (data_7, ())))))) else (some (.inr (.inr (data_7, ())))))) fun q => match q with
  | .inl (data_15, _) => (
  (idxN (data_15).length (IntKind.i64.wrap (j_6 - ((1) : Int)))).bind fun k16 =>
  ((atO data_15 k16 fun e17 => some e17)).bind fun y18 =>
  (idxN (data_15).length j_6).bind fun k19 =>
  ((atO data_15 k19 fun e20 => some e20)).bind fun y21 =>
  (idxN (data_15).length j_6).bind fun k22 =>
  ((atO data_15 k22 fun _ => some ((data_15).set k22 y18))).bind fun z24 =>
  (idxN (z24).length (IntKind.i64.wrap (j_6 - ((1) : Int)))).bind fun k25 =>
  ((atO z24 k25 fun _ => some ((z24).set k25 y21))).bind fun z27 =>
  some (.inl ((IntKind.i64.wrap (j_6 - ((1) : Int))), z27, ())))
  | .inr r => some r) n_ (i_4, data_5, ())).bind fun (data_28, _) =>
  some (.inl ((IntKind.i64.wrap (i_4 + ((1) : Int))), data_28, ()))) else (
  some (.inr (data_5, ()))))) n_ ((IntKind.i64.wrap (a_2 + ((1) : Int))), data_1, ())).bind fun (data_29, _) =>
  some (data_29, ())
set_option maxHeartbeats 4000000 in
theorem le_slices_insertionSortOrdered_int (n_ : Nat) (a : ((List Int) × Int × Int × Unit)) : Le (e_slices_insertionSortOrdered_int n_ a) (d_slices_insertionSortOrdered_int a) := by
  unfold e_slices_insertionSortOrdered_int d_slices_insertionSortOrdered_int
  repeat' (first | with_reducible exact Le.refl _ | with_reducible exact le_cmp_Less_int _ _ | (with_reducible refine Le.bind ?_ (fun y => ?_)) | (with_reducible refine Le.bif ?_ ?_) | (with_reducible refine Le.loop (fun s => ?_) _ _) | (with_reducible refine Le.atO (fun e => ?_)) | split)
noncomputable def e_slices_siftDownOrdered_int (n_ : Nat) : ((List Int) × Int × Int × Int × Unit) → Option ((List Int) × Unit) := fun (data_1, lo_2, hi_3, first_4, _) =>
  (loopN (σ := (Int × (List Int) × Unit)) (ρ := (((List Int) × Unit) ⊕ ((List Int) × Unit))) (fun (root_5, data_6, _) =>
  (bif (decide ((IntKind.i64.wrap ((IntKind.i64.wrap (((2) : Int) * root_5)) + ((1) : Int))) ≥ hi_3)) then (
  some (.inr (.inl (data_6, ())))) else (
  Option.bind (α := (Int × (List Int) × Unit)) (
  Option.bind (α := (Bool × (List Int) × Unit)) (
  (bif ((decide ((IntKind.i64.wrap ((IntKind.i64.wrap ((IntKind.i64.wrap (((2) : Int) * root_5)) + ((1) : Int))) + ((1) : Int))) < hi_3)) == true) then ((idxN (data_6).length (IntKind.i64.wrap (first_4 + (IntKind.i64.wrap ((IntKind.i64.wrap (((2) : Int) * root_5)) + ((1) : Int)))))).bind fun k7 =>
  ((atO data_6 k7 fun e8 => some e8)).bind fun y9 =>
  (idxN (data_6).length (IntKind.i64.wrap ((IntKind.i64.wrap (first_4 + (IntKind.i64.wrap ((IntKind.i64.wrap (((2) : Int) * root_5)) + ((1) : Int))))) + ((1) : Int)))).bind fun k10 =>
  ((atO data_6 k10 fun e11 => some e11)).bind fun y12 =>
  (e_cmp_Less_int n_ (y9, y12, ())).bind fun (r13, _) =>
  some (r13, data_6, ())) else (some (false, data_6, ())))) fun (s_14, data_15, _) =>
  (bif s_14 then (
  some ((IntKind.i64.wrap ((IntKind.i64.wrap ((IntKind.i64.wrap (((2) : Int) * root_5)) + ((1) : Int))) + ((1) : Int))), data_15, ())) else (
  some ((IntKind.i64.wrap ((IntKind.i64.wrap (((2) : Int) * root_5)) + ((1) : Int))), data_15, ())))) fun (child_16, data_17, _) =>
  (idxN (data_17).length (IntKind.i64.wrap (first_4 + root_5))).bind fun k18 =>
  ((atO data_17 k18 fun e19 => some e19)).bind fun y20 =>
  (idxN (data_17).length (IntKind.i64.wrap (first_4 + child_16))).bind fun k21 =>
  ((atO data_17 k21 fun e22 => some e22)).bind fun y23 =>
  (e_cmp_Less_int n_ (y20, y23, ())).bind fun (r24, _) =>
  (bif (!r24) then (
  some (.inr (.inr (data_17, ())))) else (
  (idxN (data_17).length (IntKind.i64.wrap (first_4 + child_16))).bind fun k25 =>
  ((atO data_17 k25 fun e26 => some e26)).bind fun y27 =>
  (idxN (data_17).length (IntKind.i64.wrap (first_4 + root_5))).bind fun k28 =>
  ((atO data_17 k28 fun e29 => some e29)).bind fun y30 =>
  (idxN (data_17).length (IntKind.i64.wrap (first_4 + root_5))).bind fun k31 =>
  ((atO data_17 k31 fun _ => some ((data_17).set k31 y27))).bind fun z33 =>
  (idxN (z33).length (IntKind.i64.wrap (first_4 + child_16))).bind fun k34 =>
  ((atO z33 k34 fun _ => some ((z33).set k34 y30))).bind fun z36 =>
  some (.inl (child_16, z36, ()))))))) n_ (lo_2, data_1, ())).bind fun q => match q with
  | .inl (data_37, _) => (
  some (data_37, ()))
  | .inr r => some r
set_option maxHeartbeats 4000000 in
theorem le_slices_siftDownOrdered_int (n_ : Nat) (a : ((List Int) × Int × Int × Int × Unit)) : Le (e_slices_siftDownOrdered_int n_ a) (d_slices_siftDownOrdered_int a) := by
  unfold e_slices_siftDownOrdered_int d_slices_siftDownOrdered_int
  repeat' (first | with_reducible exact Le.refl _ | with_reducible exact le_cmp_Less_int _ _ | (with_reducible refine Le.bind ?_ (fun y => ?_)) | (with_reducible refine Le.bif ?_ ?_) | (with_reducible refine Le.loop (fun s => ?_) _ _) | (with_reducible refine Le.atO (fun e => ?_)) | split)
noncomputable def e_slices_heapSortOrdered_int (n_ : Nat) : ((List Int) × Int × Int × Unit) → Option ((List Int) × Unit) := fun (data_1, a_2, b_3, _) =>
  (quoO IntKind.i64 (IntKind.i64.wrap ((IntKind.i64.wrap (b_3 - a_2)) - ((1) : Int))) ((2) : Int)).bind fun y4 =>
  (loopN (σ := (Int × (List Int) × Unit)) (ρ := ((List Int) × Unit)) (fun (i_5, data_6, _) =>
  (bif (decide (i_5 ≥ ((0) : Int))) then (
  (e_slices_siftDownOrdered_int n_ (data_6, i_5, (IntKind.i64.wrap (b_3 - a_2)), a_2, ())).bind fun (m7, _) =>
  some (.inl ((IntKind.i64.wrap (i_5 - ((1) : Int))), m7, ()))) else (
  some (.inr (data_6, ()))))) n_ (y4, data_1, ())).bind fun (data_8, _) =>
  (loopN (σ := (Int × (List Int) × Unit)) (ρ := ((List Int) × Unit)) (fun (i_9, data_10, _) =>
  (bif (decide (i_9 ≥ ((0) : Int))) then (
  (idxN (data_10).length (IntKind.i64.wrap (a_2 + i_9))).bind fun k11 =>
  ((atO data_10 k11 fun e12 => some e12)).bind fun y13 =>
  (idxN (data_10).length a_2).bind fun k14 =>
  ((atO data_10 k14 fun e15 => some e15)).bind fun y16 =>
  (idxN (data_10).length a_2).bind fun k17 =>
  ((atO data_10 k17 fun _ => some ((data_10).set k17 y13))).bind fun z19 =>
  (idxN (z19).length (IntKind.i64.wrap (a_2 + i_9))).bind fun k20 =>
  ((atO z19 k20 fun _ => some ((z19).set k20 y16))).bind fun z22 =>
  (e_slices_siftDownOrdered_int n_ (z22, ((0) : Int), i_9, a_2, ())).bind fun (m23, _) =>
  some (.inl ((IntKind.i64.wrap (i_9 - ((1) : Int))), m23, ()))) else (
  some (.inr (data_10, ()))))) n_ ((IntKind.i64.wrap ((IntKind.i64.wrap (b_3 - a_2)) - ((1) : Int))), data_8, ())).bind fun (data_24, _) =>
  some (data_24, ())
set_option maxHeartbeats 4000000 in
theorem le_slices_heapSortOrdered_int (n_ : Nat) (a : ((List Int) × Int × Int × Unit)) : Le (e_slices_heapSortOrdered_int n_ a) (d_slices_heapSortOrdered_int a) := by
  unfold e_slices_heapSortOrdered_int d_slices_heapSortOrdered_int
  repeat' (first | with_reducible exact Le.refl _ | with_reducible exact le_slices_siftDownOrdered_int _ _ | (with_reducible refine Le.bind ?_ (fun y => ?_)) | (with_reducible refine Le.bif ?_ ?_) | (with_reducible refine Le.loop (fun s => ?_) _ _) | (with_reducible refine Le.atO (fun e => ?_)) | split)
noncomputable def e_slices_nextPowerOfTwo (n_ : Nat) : (Int × Unit) → Option (Int × Unit) := fun (length_1, _) =>
  (e_math_bits_Len n_ ((IntKind.u64.wrap length_1), ())).bind fun (r2, _) =>
  (shlO IntKind.u64 ((1) : Int) r2).bind fun y3 =>
  some (y3, ())
set_option maxHeartbeats 4000000 in
theorem le_slices_nextPowerOfTwo (n_ : Nat) (a : (Int × Unit)) : Le (e_slices_nextPowerOfTwo n_ a) (d_slices_nextPowerOfTwo a) := by
  unfold e_slices_nextPowerOfTwo d_slices_nextPowerOfTwo
  repeat' (first | with_reducible exact Le.refl _ | with_reducible exact le_math_bits_Len _ _ | (with_reducible refine Le.bind ?_ (fun y => ?_)) | (with_reducible refine Le.bif ?_ ?_) | (with_reducible refine Le.loop (fun s => ?_) _ _) | (with_reducible refine Le.atO (fun e => ?_)) | split)
noncomputable def e_slices_xorshift_Next (n_ : Nat) : (Int × Unit) → Option (Int × Int × Unit) := fun (r_1, _) =>
  (shlO IntKind.u64 r_1 ((13) : Int)).bind fun y2 =>
  (shrO IntKind.u64 (xorI IntKind.u64 r_1 y2) ((7) : Int)).bind fun y3 =>
  (shlO IntKind.u64 (xorI IntKind.u64 (xorI IntKind.u64 r_1 y2) y3) ((17) : Int)).bind fun y4 =>
  some ((xorI IntKind.u64 (xorI IntKind.u64 (xorI IntKind.u64 r_1 y2) y3) y4), (xorI IntKind.u64 (xorI IntKind.u64 (xorI IntKind.u64 r_1 y2) y3) y4), ())
set_option maxHeartbeats 4000000 in
theorem le_slices_xorshift_Next (n_ : Nat) (a : (Int × Unit)) : Le (e_slices_xorshift_Next n_ a) (d_slices_xorshift_Next a) := by
  unfold e_slices_xorshift_Next d_slices_xorshift_Next
  repeat' (first | with_reducible exact Le.refl _  | (with_reducible refine Le.bind ?_ (fun y => ?_)) | (with_reducible refine Le.bif ?_ ?_) | (with_reducible refine Le.loop (fun s => ?_) _ _) | (with_reducible refine Le.atO (fun e => ?_)) | split)
noncomputable def e_slices_breakPatternsOrdered_int (n_ : Nat) : ((List Int) × Int × Int × Unit) → Option ((List Int) × Unit) := fun (data_1, a_2, b_3, _) =>
  (bif (decide ((IntKind.i64.wrap (b_3 - a_2)) ≥ ((8) : Int))) then (
  (e_slices_nextPowerOfTwo n_ ((IntKind.i64.wrap (b_3 - a_2)), ())).bind fun (r4, _) =>
  (quoO IntKind.i64 (IntKind.i64.wrap (b_3 - a_2)) ((4) : Int)).bind fun y5 =>
  (loopN (σ := (Int × (List Int) × Int × Unit)) (ρ := ((List Int) × Unit)) (fun (idx_6, data_7, random_8, _) =>
  (quoO IntKind.i64 (IntKind.i64.wrap (b_3 - a_2)) ((4) : Int)).bind fun y9 =>
  (bif (decide (idx_6 ≤ (IntKind.i64.wrap ((IntKind.i64.wrap (a_2 + (IntKind.i64.wrap (y9 * ((2) : Int))))) + ((1) : Int))))) then (
  Option.bind (α := ((List Int) × Int × Unit)) (
  (e_slices_xorshift_Next n_ (random_8, ())).bind fun (m10, r11, _) =>
  Option.bind (α := (Int × (List Int) × Int × Unit)) (
  (bif (decide ((IntKind.i64.wrap (andI IntKind.u64 r11 (IntKind.u64.wrap (r4 - ((1) : Int))))) ≥ (IntKind.i64.wrap (b_3 - a_2)))) then (
  some ((IntKind.i64.wrap ((IntKind.i64.wrap (andI IntKind.u64 r11 (IntKind.u64.wrap (r4 - ((1) : Int))))) - (IntKind.i64.wrap (b_3 - a_2)))), data_7, m10, ())) else (
  some ((IntKind.i64.wrap (andI IntKind.u64 r11 (IntKind.u64.wrap (r4 - ((1) : Int))))), data_7, m10, ())))) fun (other_12, data_13, random_14, _) =>
  (idxN (data_13).length (IntKind.i64.wrap (a_2 + other_12))).bind fun k15 =>
  ((atO data_13 k15 fun e16 => some e16)).bind fun y17 =>
  (idxN (data_13).length idx_6).bind fun k18 =>
  ((atO data_13 k18 fun e19 => some e19)).bind fun y20 =>
  (idxN (data_13).length idx_6).bind fun k21 =>
  ((atO data_13 k21 fun _ => some ((data_13).set k21 y17))).bind fun z23 =>
  (idxN (z23).length (IntKind.i64.wrap (a_2 + other_12))).bind fun k24 =>
  ((atO z23 k24 fun _ => some ((z23).set k24 y20))).bind fun z26 =>
  some (z26, random_14, ())) fun (data_27, random_28, _) =>
  some (.inl ((IntKind.i64.wrap (idx_6 + ((1) : Int))), data_27, random_28, ()))) else (
  some (.inr (data_7, ()))))) n_ ((IntKind.i64.wrap ((IntKind.i64.wrap (a_2 + (IntKind.i64.wrap (y5 * ((2) : Int))))) - ((1) : Int))), data_1, (IntKind.u64.wrap (IntKind.i64.wrap (b_3 - a_2))), ())).bind fun (data_29, _) =>
  some (data_29, ())) else (
  some (data_1, ())))
set_option maxHeartbeats 4000000 in
theorem le_slices_breakPatternsOrdered_int (n_ : Nat) (a : ((List Int) × Int × Int × Unit)) : Le (e_slices_breakPatternsOrdered_int n_ a) (d_slices_breakPatternsOrdered_int a) := by
  unfold e_slices_breakPatternsOrdered_int d_slices_breakPatternsOrdered_int
  repeat' (first | with_reducible exact Le.refl _ | with_reducible exact le_slices_nextPowerOfTwo _ _ | with_reducible exact le_slices_xorshift_Next _ _ | (with_reducible refine Le.bind ?_ (fun y => ?_)) | (with_reducible refine Le.bif ?_ ?_) | (with_reducible refine Le.loop (fun s => ?_) _ _) | (with_reducible refine Le.atO (fun e => ?_)) | split)
noncomputable def e_slices_order2Ordered_int (n_ : Nat) : ((List Int) × Int × Int × Int × Unit) → Option (Int × Int × Int × Unit) := fun (data_1, a_2, b_3, swaps_4, _) =>
  (getI data_1 b_3).bind fun y5 =>
  (getI data_1 a_2).bind fun y6 =>
  (e_cmp_Less_int n_ (y5, y6, ())).bind fun (r7, _) =>
  (bif r7 then (
  some ((IntKind.i64.wrap (swaps_4 + ((1) : Int))), b_3, a_2, ())) else (
  some (swaps_4, a_2, b_3, ())))
set_option maxHeartbeats 4000000 in
theorem le_slices_order2Ordered_int (n_ : Nat) (a : ((List Int) × Int × Int × Int × Unit)) : Le (e_slices_order2Ordered_int n_ a) (d_slices_order2Ordered_int a) := by
  unfold e_slices_order2Ordered_int d_slices_order2Ordered_int
  repeat' (first | with_reducible exact Le.refl _ | with_reducible exact le_cmp_Less_int _ _ | (with_reducible refine Le.bind ?_ (fun y => ?_)) | (with_reducible refine Le.bif ?_ ?_) | (with_reducible refine Le.loop (fun s => ?_) _ _) | (with_reducible refine Le.atO (fun e => ?_)) | split)
noncomputable def e_slices_medianOrdered_int (n_ : Nat) : ((List Int) × Int × Int × Int × Int × Unit) → Option (Int × Int × Unit) := fun (data_1, a_2, b_3, c_4, swaps_5, _) =>
  (e_slices_order2Ordered_int n_ (data_1, a_2, b_3, swaps_5, ())).bind fun (m6, r7, r8, _) =>
  (e_slices_order2Ordered_int n_ (data_1, r8, c_4, m6, ())).bind fun (m9, r10, _, _) =>
  (e_slices_order2Ordered_int n_ (data_1, r7, r10, m9, ())).bind fun (m12, _, r14, _) =>
  some (m12, r14, ())
set_option maxHeartbeats 4000000 in
theorem le_slices_medianOrdered_int (n_ : Nat) (a : ((List Int) × Int × Int × Int × Int × Unit)) : Le (e_slices_medianOrdered_int n_ a) (d_slices_medianOrdered_int a) := by
  unfold e_slices_medianOrdered_int d_slices_medianOrdered_int
  repeat' (first | with_reducible exact Le.refl _ | with_reducible exact le_slices_order2Ordered_int _ _ | (with_reducible refine Le.bind ?_ (fun y => ?_)) | (with_reducible refine Le.bif ?_ ?_) | (with_reducible refine Le.loop (fun s => ?_) _ _) | (with_reducible refine Le.atO (fun e => ?_)) | split)
noncomputable def e_slices_medianAdjacentOrdered_int (n_ : Nat) : ((List Int) × Int × Int × Unit) → Option (Int × Int × Unit) := fun (data_1, a_2, swaps_3, _) =>
  (e_slices_medianOrdered_int n_ (data_1, (IntKind.i64.wrap (a_2 - ((1) : Int))), a_2, (IntKind.i64.wrap (a_2 + ((1) : Int))), swaps_3, ())).bind fun (m4, r5, _) =>
  some (m4, r5, ())
set_option maxHeartbeats 4000000 in
theorem le_slices_medianAdjacentOrdered_int (n_ : Nat) (a : ((List Int) × Int × Int × Unit)) : Le (e_slices_medianAdjacentOrdered_int n_ a) (d_slices_medianAdjacentOrdered_int a) := by
  unfold e_slices_medianAdjacentOrdered_int d_slices_medianAdjacentOrdered_int
  repeat' (first | with_reducible exact Le.refl _ | with_reducible exact le_slices_medianOrdered_int _ _ | (with_reducible refine Le.bind ?_ (fun y => ?_)) | (with_reducible refine Le.bif ?_ ?_) | (with_reducible refine Le.loop (fun s => ?_) _ _) | (with_reducible refine Le.atO (fun e => ?_)) | split)
noncomputable def e_slices_choosePivotOrdered_int (n_ : Nat) : ((List Int) × Int × Int × Unit) → Option (Int × Int × Unit) := fun (data_1, a_2, b_3, _) =>
  (quoO IntKind.i64 (IntKind.i64.wrap (b_3 - a_2)) ((4) : Int)).bind fun y4 =>
  (quoO IntKind.i64 (IntKind.i64.wrap (b_3 - a_2)) ((4) : Int)).bind fun y5 =>
  (quoO IntKind.i64 (IntKind.i64.wrap (b_3 - a_2)) ((4) : Int)).bind fun y6 =>
  Option.bind (α := (Int × Int × Unit)) (
  (bif (decide ((IntKind.i64.wrap (b_3 - a_2)) ≥ ((8) : Int))) then (
  Option.bind (α := (Int × Int × Int × Int × Unit)) (
  (bif (decide ((IntKind.i64.wrap (b_3 - a_2)) ≥ ((50) : Int))) then (
  (e_slices_medianAdjacentOrdered_int n_ (data_1, (IntKind.i64.wrap (a_2 + (IntKind.i64.wrap (y4 * ((1) : Int))))), (0 : Int), ())).bind fun (m7, r8, _) =>
  (e_slices_medianAdjacentOrdered_int n_ (data_1, (IntKind.i64.wrap (a_2 + (IntKind.i64.wrap (y5 * ((2) : Int))))), m7, ())).bind fun (m9, r10, _) =>
  (e_slices_medianAdjacentOrdered_int n_ (data_1, (IntKind.i64.wrap (a_2 + (IntKind.i64.wrap (y6 * ((3) : Int))))), m9, ())).bind fun (m11, r12, _) =>
  some (r8, r10, r12, m11, ())) else (
  some ((IntKind.i64.wrap (a_2 + (IntKind.i64.wrap (y4 * ((1) : Int))))), (IntKind.i64.wrap (a_2 + (IntKind.i64.wrap (y5 * ((2) : Int))))), (IntKind.i64.wrap (a_2 + (IntKind.i64.wrap (y6 * ((3) : Int))))), (0 : Int), ())))) fun (i_13, j_14, k_15, swaps_16, _) =>
  (e_slices_medianOrdered_int n_ (data_1, i_13, j_14, k_15, swaps_16, ())).bind fun (m17, r18, _) =>
  some (r18, m17, ())) else (
  some ((IntKind.i64.wrap (a_2 + (IntKind.i64.wrap (y5 * ((2) : Int))))), (0 : Int), ())))) fun (j_19, swaps_20, _) =>
  (bif (swaps_20 == ((0) : Int)) then (
  some (j_19, ((1) : Int), ())) else (
  (bif (swaps_20 == ((12) : Int)) then (
  some (j_19, ((2) : Int), ())) else (
  some (j_19, ((0) : Int), ())))))
set_option maxHeartbeats 4000000 in
theorem le_slices_choosePivotOrdered_int (n_ : Nat) (a : ((List Int) × Int × Int × Unit)) : Le (e_slices_choosePivotOrdered_int n_ a) (d_slices_choosePivotOrdered_int a) := by
  unfold e_slices_choosePivotOrdered_int d_slices_choosePivotOrdered_int
  repeat' (first | with_reducible exact Le.refl _ | with_reducible exact le_slices_medianAdjacentOrdered_int _ _ | with_reducible exact le_slices_medianOrdered_int _ _ | (with_reducible refine Le.bind ?_ (fun y => ?_)) | (with_reducible refine Le.bif ?_ ?_) | (with_reducible refine Le.loop (fun s => ?_) _ _) | (with_reducible refine Le.atO (fun e => ?_)) | split)
noncomputable def e_slices_reverseRangeOrdered_int (n_ : Nat) : ((List Int) × Int × Int × Unit) → Option ((List Int) × Unit) := fun (data_1, a_2, b_3, _) =>
  (loopN (σ := (Int × Int × (List Int) × Unit)) (ρ := ((List Int) × Unit)) (fun (i_4, j_5, data_6, _) =>
  (bif (decide (i_4 < j_5)) then (
  (idxN (data_6).length j_5).bind fun k7 =>
  ((atO data_6 k7 fun e8 => some e8)).bind fun y9 =>
  (idxN (data_6).length i_4).bind fun k10 =>
  ((atO data_6 k10 fun e11 => some e11)).bind fun y12 =>
  (idxN (data_6).length i_4).bind fun k13 =>
  ((atO data_6 k13 fun _ => some ((data_6).set k13 y9))).bind fun z15 =>
  (idxN (z15).length j_5).bind fun k16 =>
  ((atO z15 k16 fun _ => some ((z15).set k16 y12))).bind fun z18 =>
  some (.inl ((IntKind.i64.wrap (i_4 + ((1) : Int))), (IntKind.i64.wrap (j_5 - ((1) : Int))), z18, ()))) else (
  some (.inr (data_6, ()))))) n_ (a_2, (IntKind.i64.wrap (b_3 - ((1) : Int))), data_1, ())).bind fun (data_19, _) =>
  some (data_19, ())
set_option maxHeartbeats 4000000 in
theorem le_slices_reverseRangeOrdered_int (n_ : Nat) (a : ((List Int) × Int × Int × Unit)) : Le (e_slices_reverseRangeOrdered_int n_ a) (d_slices_reverseRangeOrdered_int a) := by
  unfold e_slices_reverseRangeOrdered_int d_slices_reverseRangeOrdered_int
  repeat' (first | with_reducible exact Le.refl _  | (with_reducible refine Le.bind ?_ (fun y => ?_)) | (with_reducible refine Le.bif ?_ ?_) | (with_reducible refine Le.loop (fun s => ?_) _ _) | (with_reducible refine Le.atO (fun e => ?_)) | split)
noncomputable def e_slices_partialInsertionSortOrdered_int (n_ : Nat) : ((List Int) × Int × Int × Unit) → Option ((List Int) × Bool × Unit) := fun (data_1, a_2, b_3, _) =>
  (loopN (σ := (Int × Int × (List Int) × Unit)) (ρ := (((List Int) × Unit) ⊕ ((List Int) × Bool × Unit))) (fun (i_4, j_5, data_6, _) =>
  (bif (decide (j_5 < ((5) : Int))) then (
  Option.bind (α := (Int × (List Int) × Unit) ⊕ ((Int × Int × (List Int) × Unit) ⊕ (((List Int) × Unit) ⊕ ((List Int) × Bool × Unit)))) (
  (loopN (σ := (Int × (List Int) × Unit)) (ρ := (Int × (List Int) × Unit)) (fun (i_7, data_8, _) =>
  Option.bind (α := ((List Int) × Unit) ⊕ ((Int × (List Int) × Unit) ⊕ (Int × (List Int) × Unit))) (
  (bif ((decide (i_7 < b_3)) == true) then ((idxN (data_8).length i_7).bind fun k9 =>
  ((atO data_8 k9 fun e10 => some e10)).bind fun y11 =>
  (idxN (data_8).length (IntKind.i64.wrap (i_7 - ((1) : Int)))).bind fun k12 =>
  ((atO data_8 k12 fun e13 => some e13)).bind fun y14 =>
  (e_cmp_Less_int n_ (y11, y14, ())).bind fun (r15, _) =>
  (bif (!r15) then (
  some (.inl (data_8, ()))) else (
  some (.inr (.inr (i_7, data_8, ())))))) else (some (.inr (.inr (i_7, data_8, ())))))) fun q => match q with
  | .inl (data_16, _) => (
  some (.inl ((IntKind.i64.wrap (i_7 + ((1) : Int))), data_16, ())))
  | .inr r => some r) n_ (i_4, data_6, ())).bind fun (i_17, data_18, _) =>
  (bif (i_17 == b_3) then (
  some (.inr (.inr (.inr (data_18, true, ()))))) else (
  (bif (decide ((IntKind.i64.wrap (b_3 - a_2)) < ((50) : Int))) then (
  some (.inr (.inr (.inr (data_18, false, ()))))) else (
  (idxN (data_18).length (IntKind.i64.wrap (i_17 - ((1) : Int)))).bind fun k19 =>
  ((atO data_18 k19 fun e20 => some e20)).bind fun y21 =>
  (idxN (data_18).length i_17).bind fun k22 =>
  ((atO data_18 k22 fun e23 => some e23)).bind fun y24 =>
  (idxN (data_18).length i_17).bind fun k25 =>
  ((atO data_18 k25 fun _ => some ((data_18).set k25 y21))).bind fun z27 =>
  (idxN (z27).length (IntKind.i64.wrap (i_17 - ((1) : Int)))).bind fun k28 =>
  ((atO z27 k28 fun _ => some ((z27).set k28 y24))).bind fun z30 =>
  Option.bind (α := ((List Int) × Unit)) (
  (bif (decide ((IntKind.i64.wrap (i_17 - a_2)) ≥ ((2) : Int))) then (
  (loopN (σ := (Int × (List Int) × Unit)) (ρ := ((List Int) × Unit)) (fun (j_31, data_32, _) =>
  (bif (decide (j_31 ≥ ((1) : Int))) then (
  (idxN (data_32).length j_31).bind fun k33 =>
  ((atO data_32 k33 fun e34 => some e34)).bind fun y35 =>
  (idxN (data_32).length (IntKind.i64.wrap (j_31 - ((1) : Int)))).bind fun k36 =>
  ((atO data_32 k36 fun e37 => some e37)).bind fun y38 =>
  (e_cmp_Less_int n_ (y35, y38, ())).bind fun (r39, _) =>
  (bif (!r39) then (
  some (.inr (data_32, ()))) else (
  (idxN (data_32).length (IntKind.i64.wrap (j_31 - ((1) : Int)))).bind fun k40 =>
  ((atO data_32 k40 fun e41 => some e41)).bind fun y42 =>
  (idxN (data_32).length j_31).bind fun k43 =>
  ((atO data_32 k43 fun e44 => some e44)).bind fun y45 =>
  (idxN (data_32).length j_31).bind fun k46 =>
  ((atO data_32 k46 fun _ => some ((data_32).set k46 y42))).bind fun z48 =>
  (idxN (z48).length (IntKind.i64.wrap (j_31 - ((1) : Int)))).bind fun k49 =>
  ((atO z48 k49 fun _ => some ((z48).set k49 y45))).bind fun z51 =>
  some (.inl ((IntKind.i64.wrap (j_31 - ((1) : Int))), z51, ()))))) else (
  some (.inr (data_32, ()))))) n_ ((IntKind.i64.wrap (i_17 - ((1) : Int))), z30, ())).bind fun (data_52, _) =>
  some (data_52, ())) else (
  some (z30, ())))) fun (data_53, _) =>
  (bif (decide ((IntKind.i64.wrap (b_3 - i_17)) ≥ ((2) : Int))) then (
  (loopN (σ := (Int × (List Int) × Unit)) (ρ := ((List Int) × Unit)) (fun (j_54, data_55, _) =>
  (bif (decide (j_54 < b_3)) then (
  (idxN (data_55).length j_54).bind fun k56 =>
  ((atO data_55 k56 fun e57 => some e57)).bind fun y58 =>
  (idxN (data_55).length (IntKind.i64.wrap (j_54 - ((1) : Int)))).bind fun k59 =>
  ((atO data_55 k59 fun e60 => some e60)).bind fun y61 =>
  (e_cmp_Less_int n_ (y58, y61, ())).bind fun (r62, _) =>
  (bif (!r62) then (
  some (.inr (data_55, ()))) else (
  (idxN (data_55).length (IntKind.i64.wrap (j_54 - ((1) : Int)))).bind fun k63 =>
  ((atO data_55 k63 fun e64 => some e64)).bind fun y65 =>
  (idxN (data_55).length j_54).bind fun k66 =>
  ((atO data_55 k66 fun e67 => some e67)).bind fun y68 =>
  (idxN (data_55).length j_54).bind fun k69 =>
  ((atO data_55 k69 fun _ => some ((data_55).set k69 y65))).bind fun z71 =>
  (idxN (z71).length (IntKind.i64.wrap (j_54 - ((1) : Int)))).bind fun k72 =>
  ((atO z71 k72 fun _ => some ((z71).set k72 y68))).bind fun z74 =>
  some (.inl ((IntKind.i64.wrap (j_54 + ((1) : Int))), z74, ()))))) else (
  some (.inr (data_55, ()))))) n_ ((IntKind.i64.wrap (i_17 + ((1) : Int))), data_53, ())).bind fun (data_75, _) =>
  some (.inl (i_17, data_75, ()))) else (
  some (.inl (i_17, data_53, ()))))))))) fun q => match q with
  | .inl (i_76, data_77, _) => (
  some (.inl (i_76, (IntKind.i64.wrap (j_5 + ((1) : Int))), data_77, ())))
  | .inr r => some r) else (
  some (.inr (.inl (data_6, ())))))) n_ ((IntKind.i64.wrap (a_2 + ((1) : Int))), ((0) : Int), data_1, ())).bind fun q => match q with
  | .inl (data_78, _) => (
  some (data_78, false, ()))
  | .inr r => some r
set_option maxHeartbeats 4000000 in
theorem le_slices_partialInsertionSortOrdered_int (n_ : Nat) (a : ((List Int) × Int × Int × Unit)) : Le (e_slices_partialInsertionSortOrdered_int n_ a) (d_slices_partialInsertionSortOrdered_int a) := by
  unfold e_slices_partialInsertionSortOrdered_int d_slices_partialInsertionSortOrdered_int
  repeat' (first | with_reducible exact Le.refl _ | with_reducible exact le_cmp_Less_int _ _ | (with_reducible refine Le.bind ?_ (fun y => ?_)) | (with_reducible refine Le.bif ?_ ?_) | (with_reducible refine Le.loop (fun s => ?_) _ _) | (with_reducible refine Le.atO (fun e => ?_)) | split)
noncomputable def e_slices_partitionEqualOrdered_int (n_ : Nat) : ((List Int) × Int × Int × Int × Unit) → Option ((List Int) × Int × Unit) := fun (data_1, a_2, b_3, pivot_4, _) =>
  (idxN (data_1).length pivot_4).bind fun k5 =>
  ((atO data_1 k5 fun e6 => some e6)).bind fun y7 =>
  (idxN (data_1).length a_2).bind fun k8 =>
  ((atO data_1 k8 fun e9 => some e9)).bind fun y10 =>
  (idxN (data_1).length a_2).bind fun k11 =>
  ((atO data_1 k11 fun _ => some ((data_1).set k11 y7))).bind fun z13 =>
  (idxN (z13).length pivot_4).bind fun k14 =>
  ((atO z13 k14 fun _ => some ((z13).set k14 y10))).bind fun z16 =>
  (loopN (σ := (Int × Int × (List Int) × Unit)) (ρ := (Int × (List Int) × Unit)) (fun (i_17, j_18, data_19, _) =>
  (loopN (σ := (Int × (List Int) × Unit)) (ρ := (Int × (List Int) × Unit)) (fun (i_20, data_21, _) =>
  Option.bind (α := ((List Int) × Unit) ⊕ ((Int × (List Int) × Unit) ⊕ (Int × (List Int) × Unit))) (
  (bif ((decide (i_20 ≤ j_18)) == true) then ((idxN (data_21).length a_2).bind fun k22 =>
  ((atO data_21 k22 fun e23 => some e23)).bind fun y24 =>
  (idxN (data_21).length i_20).bind fun k25 =>
  ((atO data_21 k25 fun e26 => some e26)).bind fun y27 =>
  (e_cmp_Less_int n_ (y24, y27, ())).bind fun (r28, _) =>
  (bif (!r28) then (
  some (.inl (data_21, ()))) else (
  some (.inr (.inr (i_20, data_21, ())))))) else (some (.inr (.inr (i_20, data_21, ())))))) fun q => match q with
  | .inl (data_29, _) => (
  some (.inl ((IntKind.i64.wrap (i_20 + ((1) : Int))), data_29, ())))
  | .inr r => some r) n_ (i_17, data_19, ())).bind fun (i_30, data_31, _) =>
  (loopN (σ := (Int × (List Int) × Unit)) (ρ := (Int × (List Int) × Unit)) (fun (j_32, data_33, _) =>
  Option.bind (α := ((List Int) × Unit) ⊕ ((Int × (List Int) × Unit) ⊕ (Int × (List Int) × Unit))) (
  (bif ((decide (i_30 ≤ j_32)) == true) then ((idxN (data_33).length a_2).bind fun k34 =>
  ((atO data_33 k34 fun e35 => some e35)).bind fun y36 =>
  (idxN (data_33).length j_32).bind fun k37 =>
  ((atO data_33 k37 fun e38 => some e38)).bind fun y39 =>
  (e_cmp_Less_int n_ (y36, y39, ())).bind fun (r40, _) =>
  (bif r40 then (
  some (.inl (data_33, ()))) else (
  some (.inr (.inr (j_32, data_33, ())))))) else (some (.inr (.inr (j_32, data_33, ())))))) fun q => match q with
  | .inl (data_41, _) => (
  some (.inl ((IntKind.i64.wrap (j_32 - ((1) : Int))), data_41, ())))
  | .inr r => some r) n_ (j_18, data_31, ())).bind fun (j_42, data_43, _) =>
  (bif (decide (i_30 > j_42)) then (
  some (.inr (i_30, data_43, ()))) else (
  (idxN (data_43).length j_42).bind fun k44 =>
  ((atO data_43 k44 fun e45 => some e45)).bind fun y46 =>
  (idxN (data_43).length i_30).bind fun k47 =>
  ((atO data_43 k47 fun e48 => some e48)).bind fun y49 =>
  (idxN (data_43).length i_30).bind fun k50 =>
  ((atO data_43 k50 fun _ => some ((data_43).set k50 y46))).bind fun z52 =>
  (idxN (z52).length j_42).bind fun k53 =>
  ((atO z52 k53 fun _ => some ((z52).set k53 y49))).bind fun z55 =>
  some (.inl ((IntKind.i64.wrap (i_30 + ((1) : Int))), (IntKind.i64.wrap (j_42 - ((1) : Int))), z55, ()))))) n_ ((IntKind.i64.wrap (a_2 + ((1) : Int))), (IntKind.i64.wrap (b_3 - ((1) : Int))), z16, ())).bind fun (i_56, data_57, _) =>
  some (data_57, i_56, ())
set_option maxHeartbeats 4000000 in
theorem le_slices_partitionEqualOrdered_int (n_ : Nat) (a : ((List Int) × Int × Int × Int × Unit)) : Le (e_slices_partitionEqualOrdered_int n_ a) (d_slices_partitionEqualOrdered_int a) := by
  unfold e_slices_partitionEqualOrdered_int d_slices_partitionEqualOrdered_int
  repeat' (first | with_reducible exact Le.refl _ | with_reducible exact le_cmp_Less_int _ _ | (with_reducible refine Le.bind ?_ (fun y => ?_)) | (with_reducible refine Le.bif ?_ ?_) | (with_reducible refine Le.loop (fun s => ?_) _ _) | (with_reducible refine Le.atO (fun e => ?_)) | split)
noncomputable def e_slices_partitionOrdered_int (n_ : Nat) : ((List Int) × Int × Int × Int × Unit) → Option ((List Int) × Int × Bool × Unit) := fun (data_1, a_2, b_3, pivot_4, _) =>
  (idxN (data_1).length pivot_4).bind fun k5 =>
  ((atO data_1 k5 fun e6 => some e6)).bind fun y7 =>
  (idxN (data_1).length a_2).bind fun k8 =>
  ((atO data_1 k8 fun e9 => some e9)).bind fun y10 =>
  (idxN (data_1).length a_2).bind fun k11 =>
  ((atO data_1 k11 fun _ => some ((data_1).set k11 y7))).bind fun z13 =>
  (idxN (z13).length pivot_4).bind fun k14 =>
  ((atO z13 k14 fun _ => some ((z13).set k14 y10))).bind fun z16 =>
  (loopN (σ := (Int × (List Int) × Unit)) (ρ := (Int × (List Int) × Unit)) (fun (i_17, data_18, _) =>
  Option.bind (α := ((List Int) × Unit) ⊕ ((Int × (List Int) × Unit) ⊕ (Int × (List Int) × Unit))) (
  (bif ((decide (i_17 ≤ (IntKind.i64.wrap (b_3 - ((1) : Int))))) == true) then ((idxN (data_18).length i_17).bind fun k19 =>
  ((atO data_18 k19 fun e20 => some e20)).bind fun y21 =>
  (idxN (data_18).length a_2).bind fun k22 =>
  ((atO data_18 k22 fun e23 => some e23)).bind fun y24 =>
  (e_cmp_Less_int n_ (y21, y24, ())).bind fun (r25, _) =>
  (bif r25 then (
  some (.inl (data_18, ()))) else (
  some (.inr (.inr (i_17, data_18, ())))))) else (some (.inr (.inr (i_17, data_18, ())))))) fun q => match q with
  | .inl (data_26, _) => (
  some (.inl ((IntKind.i64.wrap (i_17 + ((1) : Int))), data_26, ())))
  | .inr r => some r) n_ ((IntKind.i64.wrap (a_2 + ((1) : Int))), z16, ())).bind fun (i_27, data_28, _) =>
  (loopN (σ := (Int × (List Int) × Unit)) (ρ := (Int × (List Int) × Unit)) (fun (j_29, data_30, _) =>
  Option.bind (α := ((List Int) × Unit) ⊕ ((Int × (List Int) × Unit) ⊕ (Int × (List Int) × Unit))) (
  (bif ((decide (i_27 ≤ j_29)) == true) then ((idxN (data_30).length j_29).bind fun k31 =>
  ((atO data_30 k31 fun e32 => some e32)).bind fun y33 =>
  (idxN (data_30).length a_2).bind fun k34 =>
  ((atO data_30 k34 fun e35 => some e35)).bind fun y36 =>
  (e_cmp_Less_int n_ (y33, y36, ())).bind fun (r37, _) =>
  (bif (!r37) then (
  some (.inl (data_30, ()))) else (
  some (.inr (.inr (j_29, data_30, ())))))) else (some (.inr (.inr (j_29, data_30, ())))))) fun q => match q with
  | .inl (data_38, _) => (
  some (.inl ((IntKind.i64.wrap (j_29 - ((1) : Int))), data_38, ())))
  | .inr r => some r) n_ ((IntKind.i64.wrap (b_3 - ((1) : Int))), data_28, ())).bind fun (j_39, data_40, _) =>
  (bif (decide (i_27 > j_39)) then (
  (idxN (data_40).length a_2).bind fun k41 =>
  ((atO data_40 k41 fun e42 => some e42)).bind fun y43 =>
  (idxN (data_40).length j_39).bind fun k44 =>
  ((atO data_40 k44 fun e45 => some e45)).bind fun y46 =>
  (idxN (data_40).length j_39).bind fun k47 =>
  ((atO data_40 k47 fun _ => some ((data_40).set k47 y43))).bind fun z49 =>
  (idxN (z49).length a_2).bind fun k50 =>
  ((atO z49 k50 fun _ => some ((z49).set k50 y46))).bind fun z52 =>
  some (z52, j_39, true, ())) else (
  (idxN (data_40).length j_39).bind fun k53 =>
  ((atO data_40 k53 fun e54 => some e54)).bind fun y55 =>
  (idxN (data_40).length i_27).bind fun k56 =>
  ((atO data_40 k56 fun e57 => some e57)).bind fun y58 =>
  (idxN (data_40).length i_27).bind fun k59 =>
  ((atO data_40 k59 fun _ => some ((data_40).set k59 y55))).bind fun z61 =>
  (idxN (z61).length j_39).bind fun k62 =>
  ((atO z61 k62 fun _ => some ((z61).set k62 y58))).bind fun z64 =>
  (loopN (σ := (Int × Int × (List Int) × Unit)) (ρ := (Int × (List Int) × Unit)) (fun (i_65, j_66, data_67, _) =>
  (loopN (σ := (Int × (List Int) × Unit)) (ρ := (Int × (List Int) × Unit)) (fun (i_68, data_69, _) =>
  Option.bind (α := ((List Int) × Unit) ⊕ ((Int × (List Int) × Unit) ⊕ (Int × (List Int) × Unit))) (
  (bif ((decide (i_68 ≤ j_66)) == true) then ((idxN (data_69).length i_68).bind fun k70 =>
  ((atO data_69 k70 fun e71 => some e71)).bind fun y72 =>
  (idxN (data_69).length a_2).bind fun k73 =>
  ((atO data_69 k73 fun e74 => some e74)).bind fun y75 =>
  (e_cmp_Less_int n_ (y72, y75, ())).bind fun (r76, _) =>
  (bif r76 then (
  some (.inl (data_69, ()))) else (
  some (.inr (.inr (i_68, data_69, ())))))) else (some (.inr (.inr (i_68, data_69, ())))))) fun q => match q with
  | .inl (data_77, _) => (
  some (.inl ((IntKind.i64.wrap (i_68 + ((1) : Int))), data_77, ())))
  | .inr r => some r) n_ (i_65, data_67, ())).bind fun (i_78, data_79, _) =>
  (loopN (σ := (Int × (List Int) × Unit)) (ρ := (Int × (List Int) × Unit)) (fun (j_80, data_81, _) =>
  Option.bind (α := ((List Int) × Unit) ⊕ ((Int × (List Int) × Unit) ⊕ (Int × (List Int) × Unit))) (
  (bif ((decide (i_78 ≤ j_80)) == true) then ((idxN (data_81).length j_80).bind fun k82 =>
  ((atO data_81 k82 fun e83 => some e83)).bind fun y84 =>
  (idxN (data_81).length a_2).bind fun k85 =>
  ((atO data_81 k85 fun e86 => some e86)).bind fun y87 =>
  (e_cmp_Less_int n_ (y84, y87, ())).bind fun (r88, _) =>
  (bif (!r88) then (
  some (.inl (data_81, ()))) else (
  some (.inr (.inr (j_80, data_81, ())))))) else (some (.inr (.inr (j_80, data_81, ())))))) fun q => match q with
  | .inl (data_89, _) => (
  some (.inl ((IntKind.i64.wrap (j_80 - ((1) : Int))), data_89, ())))
  | .inr r => some r) n_ (j_66, data_79, ())).bind fun (j_90, data_91, _) =>
  (bif (decide (i_78 > j_90)) then (
  some (.inr (j_90, data_91, ()))) else (
  (idxN (data_91).length j_90).bind fun k92 =>
  ((atO data_91 k92 fun e93 => some e93)).bind fun y94 =>
  (idxN (data_91).length i_78).bind fun k95 =>
  ((atO data_91 k95 fun e96 => some e96)).bind fun y97 =>
  (idxN (data_91).length i_78).bind fun k98 =>
  ((atO data_91 k98 fun _ => some ((data_91).set k98 y94))).bind fun z100 =>
  (idxN (z100).length j_90).bind fun k101 =>
  ((atO z100 k101 fun _ => some ((z100).set k101 y97))).bind fun z103 =>
  some (.inl ((IntKind.i64.wrap (i_78 + ((1) : Int))), (IntKind.i64.wrap (j_90 - ((1) : Int))), z103, ()))))) n_ ((IntKind.i64.wrap (i_27 + ((1) : Int))), (IntKind.i64.wrap (j_39 - ((1) : Int))), z64, ())).bind fun (j_104, data_105, _) =>
  (idxN (data_105).length a_2).bind fun k106 =>
  ((atO data_105 k106 fun e107 => some e107)).bind fun y108 =>
  (idxN (data_105).length j_104).bind fun k109 =>
  ((atO data_105 k109 fun e110 => some e110)).bind fun y111 =>
  (idxN (data_105).length j_104).bind fun k112 =>
  ((atO data_105 k112 fun _ => some ((data_105).set k112 y108))).bind fun z114 =>
  (idxN (z114).length a_2).bind fun k115 =>
  ((atO z114 k115 fun _ => some ((z114).set k115 y111))).bind fun z117 =>
  some (z117, j_104, false, ())))
set_option maxHeartbeats 4000000 in
theorem le_slices_partitionOrdered_int (n_ : Nat) (a : ((List Int) × Int × Int × Int × Unit)) : Le (e_slices_partitionOrdered_int n_ a) (d_slices_partitionOrdered_int a) := by
  unfold e_slices_partitionOrdered_int d_slices_partitionOrdered_int
  repeat' (first | with_reducible exact Le.refl _ | with_reducible exact le_cmp_Less_int _ _ | (with_reducible refine Le.bind ?_ (fun y => ?_)) | (with_reducible refine Le.bif ?_ ?_) | (with_reducible refine Le.loop (fun s => ?_) _ _) | (with_reducible refine Le.atO (fun e => ?_)) | split)
noncomputable def e_slices_pdqsortOrdered_intq_s (n_ : Nat) (f_ : ((List Int) × Int × Int × Int × Unit) → Option ((List Int) × Unit)) : ((List Int) × Int × Int × Int × Unit) → Option ((List Int) × Unit) := fun (data_1, a_2, b_3, limit_4, _) =>
  (loopN (σ := (Int × Int × Int × Bool × Bool × (List Int) × Unit)) (ρ := ((List Int) × Unit)) (fun (a_5, b_6, limit_7, wasBalanced_8, wasPartitioned_9, data_10, _) =>
  (bif (decide ((IntKind.i64.wrap (b_6 - a_5)) ≤ ((12) : Int))) then (
  (e_slices_insertionSortOrdered_int n_ (data_10, a_5, b_6, ())).bind fun (m11, _) =>
  some (.inr (m11, ()))) else (
  (bif (limit_7 == ((0) : Int)) then (
  (e_slices_heapSortOrdered_int n_ (data_10, a_5, b_6, ())).bind fun (m12, _) =>
  some (.inr (m12, ()))) else (
  Option.bind (α := (Int × (List Int) × Unit)) (
  (bif (!wasBalanced_8) then (
  (e_slices_breakPatternsOrdered_int n_ (data_10, a_5, b_6, ())).bind fun (m13, _) =>
  some ((IntKind.i64.wrap (limit_7 - ((1) : Int))), m13, ())) else (
  some (limit_7, data_10, ())))) fun (limit_14, data_15, _) =>
  (e_slices_choosePivotOrdered_int n_ (data_15, a_5, b_6, ())).bind fun (r16, r17, _) =>
  Option.bind (α := (Int × Int × (List Int) × Unit)) (
  (bif (r17 == ((2) : Int)) then (
  (e_slices_reverseRangeOrdered_int n_ (data_15, a_5, b_6, ())).bind fun (m18, _) =>
  some ((IntKind.i64.wrap ((IntKind.i64.wrap (b_6 - ((1) : Int))) - (IntKind.i64.wrap (r16 - a_5)))), ((1) : Int), m18, ())) else (
  some (r16, r17, data_15, ())))) fun (pivot_19, hint_20, data_21, _) =>
  Option.bind (α := ((List Int) × Unit) ⊕ ((Int × Int × Int × Bool × Bool × (List Int) × Unit) ⊕ ((List Int) × Unit))) (
  Option.bind (α := (Bool × (List Int) × Unit)) (
  (bif (wasBalanced_8 == true) then ((bif (wasPartitioned_9 == true) then (some ((hint_20 == ((1) : Int)), data_21, ())) else (some (false, data_21, ())))) else (some (false, data_21, ())))) fun (s_22, data_23, _) =>
  (bif s_22 then (
  (e_slices_partialInsertionSortOrdered_int n_ (data_23, a_5, b_6, ())).bind fun (m24, r25, _) =>
  (bif r25 then (
  some (.inr (.inr (m24, ())))) else (
  some (.inl (m24, ()))))) else (
  some (.inl (data_23, ()))))) fun q => match q with
  | .inl (data_26, _) => (
  Option.bind (α := (Int × (List Int) × Unit) ⊕ ((Int × Int × Int × Bool × Bool × (List Int) × Unit) ⊕ ((List Int) × Unit))) (
  Option.bind (α := (Bool × (List Int) × Unit)) (
  (bif ((decide (a_5 > ((0) : Int))) == true) then ((idxN (data_26).length (IntKind.i64.wrap (a_5 - ((1) : Int)))).bind fun k27 =>
  ((atO data_26 k27 fun e28 => some e28)).bind fun y29 =>
  (idxN (data_26).length pivot_19).bind fun k30 =>
  ((atO data_26 k30 fun e31 => some e31)).bind fun y32 =>
  (e_cmp_Less_int n_ (y29, y32, ())).bind fun (r33, _) =>
  some ((!r33), data_26, ())) else (some (false, data_26, ())))) fun (s_34, data_35, _) =>
  (bif s_34 then (
  (e_slices_partitionEqualOrdered_int n_ (data_35, a_5, b_6, pivot_19, ())).bind fun (m36, r37, _) =>
  some (.inr (.inl (r37, b_6, limit_14, wasBalanced_8, wasPartitioned_9, m36, ())))) else (
  some (.inl (a_5, data_35, ()))))) fun q => match q with
  | .inl (a_38, data_39, _) => (
  (e_slices_partitionOrdered_int n_ (data_39, a_38, b_6, pivot_19, ())).bind fun (m40, r41, r42, _) =>
  (quoO IntKind.i64 (IntKind.i64.wrap (b_6 - a_5)) ((8) : Int)).bind fun y43 =>
  (bif (decide ((IntKind.i64.wrap (r41 - a_38)) < (IntKind.i64.wrap (b_6 - r41)))) then (
  (f_ (m40, a_38, r41, limit_14, ())).bind fun (m44, _) =>
  some (.inl ((IntKind.i64.wrap (r41 + ((1) : Int))), b_6, limit_14, (decide ((IntKind.i64.wrap (r41 - a_38)) ≥ y43)), r42, m44, ()))) else (
  (f_ (m40, (IntKind.i64.wrap (r41 + ((1) : Int))), b_6, limit_14, ())).bind fun (m45, _) =>
  some (.inl (a_38, r41, limit_14, (decide ((IntKind.i64.wrap (b_6 - r41)) ≥ y43)), r42, m45, ())))))
  | .inr r => some r)
  | .inr r => some r))))) n_ (a_2, b_3, limit_4, true, true, data_1, ())).bind some
set_option maxHeartbeats 4000000 in
theorem le_slices_pdqsortOrdered_intq_s (n_ : Nat) (f_ fb_ : ((List Int) × Int × Int × Int × Unit) → Option ((List Int) × Unit)) (h_ : ∀ a, Le (f_ a) (fb_ a)) (a : ((List Int) × Int × Int × Int × Unit)) : Le (e_slices_pdqsortOrdered_intq_s n_ f_ a) (r_slices_pdqsortOrdered_intq_s fb_ a) := by
  unfold e_slices_pdqsortOrdered_intq_s r_slices_pdqsortOrdered_intq_s
  repeat' (first | with_reducible exact Le.refl _ | with_reducible exact le_slices_insertionSortOrdered_int _ _ | with_reducible exact le_slices_heapSortOrdered_int _ _ | with_reducible exact le_slices_breakPatternsOrdered_int _ _ | with_reducible exact le_slices_choosePivotOrdered_int _ _ | with_reducible exact le_slices_reverseRangeOrdered_int _ _ | with_reducible exact le_slices_partialInsertionSortOrdered_int _ _ | with_reducible exact le_cmp_Less_int _ _ | with_reducible exact le_slices_partitionEqualOrdered_int _ _ | with_reducible exact le_slices_partitionOrdered_int _ _ | with_reducible exact h_ _ | (with_reducible refine Le.bind ?_ (fun y => ?_)) | (with_reducible refine Le.bif ?_ ?_) | (with_reducible refine Le.loop (fun s => ?_) _ _) | (with_reducible refine Le.atO (fun e => ?_)) | split)
noncomputable def e_slices_pdqsortOrdered_int (n_ : Nat) : ((List Int) × Int × Int × Int × Unit) → Option ((List Int) × Unit) := deep (e_slices_pdqsortOrdered_intq_s n_) n_
theorem le_slices_pdqsortOrdered_int (n_ : Nat) (a : ((List Int) × Int × Int × Int × Unit)) : Le (e_slices_pdqsortOrdered_int n_ a) (d_slices_pdqsortOrdered_int a) := Le.deep (le_slices_pdqsortOrdered_intq_s n_) r_slices_pdqsortOrdered_intq_mono n_ a
noncomputable def e_slices_Sort_int_int (n_ : Nat) : ((List Int) × Unit) → Option ((List Int) × Unit) := fun (x_1, _) =>
  (e_math_bits_Len n_ ((IntKind.u64.wrap (((x_1).length : Nat) : Int)), ())).bind fun (r2, _) =>
  (e_slices_pdqsortOrdered_int n_ (x_1, ((0) : Int), (((x_1).length : Nat) : Int), r2, ())).bind fun (m3, _) =>
  some (m3, ())
set_option maxHeartbeats 4000000 in
theorem le_slices_Sort_int_int (n_ : Nat) (a : ((List Int) × Unit)) : Le (e_slices_Sort_int_int n_ a) (d_slices_Sort_int_int a) := by
  unfold e_slices_Sort_int_int d_slices_Sort_int_int
  repeat' (first | with_reducible exact Le.refl _ | with_reducible exact le_slices_pdqsortOrdered_int _ _ | with_reducible exact le_math_bits_Len _ _ | (with_reducible refine Le.bind ?_ (fun y => ?_)) | (with_reducible refine Le.bif ?_ ?_) | (with_reducible refine Le.loop (fun s => ?_) _ _) | (with_reducible refine Le.atO (fun e => ?_)) | split)
noncomputable def e_graph_levels (n_ : Nat) : (((List (List Int)) × Unit) × Int × Unit) → Option ((List (List Int)) × Unit) := fun (g_1, root_2, _) =>
  (madeO (((g_1.1).length : Nat) : Int) (((g_1.1).length : Nat) : Int)).bind fun n48 =>
  (idxN ((List.replicate n48 false)).length root_2).bind fun k49 =>
  ((atO (List.replicate n48 false) k49 fun _ => some (((List.replicate n48 false)).set k49 true))).bind fun z51 =>
  (loopN (σ := ((List Int) × (List Bool) × (List (List Int)) × Unit)) (ρ := ((List (List Int)) × Unit)) (fun (now_52, seen_53, out_54, _) =>
  (bif (decide ((((now_52).length : Nat) : Int) > ((0) : Int))) then (
  (limO ((out_54).length + ([now_52]).length)).bind fun _ =>
  (loopN (σ := (Int × (List Bool) × (List (List Int)) × (List Int) × Unit)) (ρ := ((List Bool) × (List (List Int)) × (List Int) × Unit)) (fun (s_55, seen_56, out_57, next_58, _) =>
  (bif (decide (s_55 < (((now_52).length : Nat) : Int))) then (
  (getI now_52 s_55).bind fun y59 =>
  (getI g_1.1 y59).bind fun y60 =>
  (loopN (σ := (Int × (List Bool) × (List (List Int)) × (List Int) × Unit)) (ρ := ((List Bool) × (List (List Int)) × (List Int) × Unit)) (fun (s_61, seen_62, out_63, next_64, _) =>
  (bif (decide (s_61 < (((y60).length : Nat) : Int))) then (
  Option.bind (α := ((List Bool) × (List (List Int)) × (List Int) × Unit)) (
  (getI y60 s_61).bind fun y65 =>
  (idxN (seen_62).length y65).bind fun k66 =>
  ((atO seen_62 k66 fun e67 => some e67)).bind fun y68 =>
  (bif (!y68) then (
  (idxN (seen_62).length y65).bind fun k69 =>
  ((atO seen_62 k69 fun _ => some ((seen_62).set k69 true))).bind fun z71 =>
  (limO ((next_64).length + ([y65]).length)).bind fun _ =>
  some (z71, out_63, (next_64 ++ [y65]), ())) else (
  some (seen_62, out_63, next_64, ())))) fun (seen_72, out_73, next_74, _) =>
  some (.inl ((IntKind.i64.wrap (s_61 + ((1) : Int))), seen_72, out_73, next_74, ()))) else (
  some (.inr (seen_62, out_63, next_64, ()))))) n_ (((0) : Int), seen_56, out_57, next_58, ())).bind fun (seen_75, out_76, next_77, _) =>
  some (.inl ((IntKind.i64.wrap (s_55 + ((1) : Int))), seen_75, out_76, next_77, ()))) else (
  some (.inr (seen_56, out_57, next_58, ()))))) n_ (((0) : Int), seen_53, (out_54 ++ [now_52]), [], ())).bind fun (seen_78, out_79, next_80, _) =>
  (e_slices_Sort_int_int n_ (next_80, ())).bind fun (m81, _) =>
  some (.inl (m81, seen_78, out_79, ()))) else (
  some (.inr (out_54, ()))))) n_ ([root_2], z51, [], ())).bind fun (out_82, _) =>
  some (out_82, ())
set_option maxHeartbeats 4000000 in
theorem le_graph_levels (n_ : Nat) (a : (((List (List Int)) × Unit) × Int × Unit)) : Le (e_graph_levels n_ a) (d_graph_levels a) := by
  unfold e_graph_levels d_graph_levels
  repeat' (first | with_reducible exact Le.refl _ | with_reducible exact le_slices_Sort_int_int _ _ | (with_reducible refine Le.bind ?_ (fun y => ?_)) | (with_reducible refine Le.bif ?_ ?_) | (with_reducible refine Le.loop (fun s => ?_) _ _) | (with_reducible refine Le.atO (fun e => ?_)) | split)
noncomputable def e_slices_Grow_int_int (n_ : Nat) : Unit × Int × Unit → Option (List Int × Unit) := fun a => (grSem a.2.1).map fun r => (r, ())
theorem le_slices_Grow_int_int (n_ : Nat) (a : Unit × Int × Unit) : Le (e_slices_Grow_int_int n_ a) (d_slices_Grow_int_int a) := Le.refl _
noncomputable def e_slices_Concat_int_int (n_ : Nat) : ((List (List Int)) × Unit) → Option ((List Int) × Unit) := fun (slices_1, _) =>
  (loopN (σ := (Int × Int × Unit)) (ρ := (Int × Unit)) (fun (size_2, s_3, _) =>
  (bif (decide (s_3 < (((slices_1).length : Nat) : Int))) then (
  Option.bind (α := (Int × Unit)) (
  (getI slices_1 s_3).bind fun y4 =>
  (bif (decide ((IntKind.i64.wrap (size_2 + (((y4).length : Nat) : Int))) < ((0) : Int))) then (
  none) else (
  some ((IntKind.i64.wrap (size_2 + (((y4).length : Nat) : Int))), ())))) fun (size_5, _) =>
  some (.inl (size_5, (IntKind.i64.wrap (s_3 + ((1) : Int))), ()))) else (
  some (.inr (size_2, ()))))) n_ (((0) : Int), ((0) : Int), ())).bind fun (size_6, _) =>
  (e_slices_Grow_int_int n_ ((), size_6, ())).bind fun (r7, _) =>
  (loopN (σ := (Int × (List Int) × Unit)) (ρ := ((List Int) × Unit)) (fun (s_8, newslice_9, _) =>
  (bif (decide (s_8 < (((slices_1).length : Nat) : Int))) then (
  (getI slices_1 s_8).bind fun y10 =>
  (limO ((newslice_9).length + (y10).length)).bind fun _ =>
  some (.inl ((IntKind.i64.wrap (s_8 + ((1) : Int))), (newslice_9 ++ y10), ()))) else (
  some (.inr (newslice_9, ()))))) n_ (((0) : Int), r7, ())).bind fun (newslice_11, _) =>
  some (newslice_11, ())
set_option maxHeartbeats 4000000 in
theorem le_slices_Concat_int_int (n_ : Nat) (a : ((List (List Int)) × Unit)) : Le (e_slices_Concat_int_int n_ a) (d_slices_Concat_int_int a) := by
  unfold e_slices_Concat_int_int d_slices_Concat_int_int
  repeat' (first | with_reducible exact Le.refl _ | with_reducible exact le_slices_Grow_int_int _ _ | (with_reducible refine Le.bind ?_ (fun y => ?_)) | (with_reducible refine Le.bif ?_ ?_) | (with_reducible refine Le.loop (fun s => ?_) _ _) | (with_reducible refine Le.atO (fun e => ?_)) | split)
noncomputable def e_graph_Components (n_ : Nat) : (((List (List Int)) × Unit) × Unit) → Option ((List (List Int)) × Unit) := fun (g_1, _) =>
  (e_graph_Check n_ (g_1, ())).bind fun (r55, _) =>
  (bif (r55 != ((0) : Int)) then (
  some ([], ())) else (
  (madeO (((g_1.1).length : Nat) : Int) (((g_1.1).length : Nat) : Int)).bind fun n56 =>
  (loopN (σ := (Int × (List Bool) × (List (List Int)) × Unit)) (ρ := ((List (List Int)) × Unit)) (fun (s_57, seen_58, out_59, _) =>
  (bif (decide (s_57 < (((g_1.1).length : Nat) : Int))) then (
  Option.bind (α := ((List Bool) × (List (List Int)) × Unit)) (
  (idxN (seen_58).length s_57).bind fun k60 =>
  ((atO seen_58 k60 fun e61 => some e61)).bind fun y62 =>
  (bif y62 then (
  some (seen_58, out_59, ())) else (
  (e_graph_levels n_ (g_1, s_57, ())).bind fun (r63, _) =>
  (e_slices_Concat_int_int n_ (r63, ())).bind fun (r64, _) =>
  (e_slices_Sort_int_int n_ (r64, ())).bind fun (m65, _) =>
  (loopN (σ := (Int × (List Bool) × (List (List Int)) × (List Int) × Unit)) (ρ := ((List Bool) × (List (List Int)) × (List Int) × Unit)) (fun (s_66, seen_67, out_68, part_69, _) =>
  (bif (decide (s_66 < (((m65).length : Nat) : Int))) then (
  (idxN (part_69).length s_66).bind fun k70 =>
  ((atO part_69 k70 fun e71 => some e71)).bind fun y72 =>
  (idxN (seen_67).length y72).bind fun k73 =>
  ((atO seen_67 k73 fun _ => some ((seen_67).set k73 true))).bind fun z75 =>
  some (.inl ((IntKind.i64.wrap (s_66 + ((1) : Int))), z75, out_68, part_69, ()))) else (
  some (.inr (seen_67, out_68, part_69, ()))))) n_ (((0) : Int), seen_58, out_59, m65, ())).bind fun (seen_76, out_77, part_78, _) =>
  (limO ((out_77).length + ([part_78]).length)).bind fun _ =>
  some (seen_76, (out_77 ++ [part_78]), ())))) fun (seen_79, out_80, _) =>
  some (.inl ((IntKind.i64.wrap (s_57 + ((1) : Int))), seen_79, out_80, ()))) else (
  some (.inr (out_59, ()))))) n_ (((0) : Int), (List.replicate n56 false), [], ())).bind fun (out_81, _) =>
  some (out_81, ())))
set_option maxHeartbeats 4000000 in
theorem le_graph_Components (n_ : Nat) (a : (((List (List Int)) × Unit) × Unit)) : Le (e_graph_Components n_ a) (d_graph_Components a) := by
  unfold e_graph_Components d_graph_Components
  repeat' (first | with_reducible exact Le.refl _ | with_reducible exact le_graph_Check _ _ | with_reducible exact le_slices_Concat_int_int _ _ | with_reducible exact le_graph_levels _ _ | with_reducible exact le_slices_Sort_int_int _ _ | (with_reducible refine Le.bind ?_ (fun y => ?_)) | (with_reducible refine Le.bif ?_ ?_) | (with_reducible refine Le.loop (fun s => ?_) _ _) | (with_reducible refine Le.atO (fun e => ?_)) | split)
noncomputable def e_graph_vertex (n_ : Nat) : (((List (List Int)) × Unit) × Int × Unit) → Option (Bool × Unit) := fun (g_1, v_2, _) =>
  (bif ((decide (v_2 ≥ ((0) : Int))) == true) then (some ((decide (v_2 < (((g_1.1).length : Nat) : Int))), ())) else (some (false, ())))
set_option maxHeartbeats 4000000 in
theorem le_graph_vertex (n_ : Nat) (a : (((List (List Int)) × Unit) × Int × Unit)) : Le (e_graph_vertex n_ a) (d_graph_vertex a) := by
  unfold e_graph_vertex d_graph_vertex
  repeat' (first | with_reducible exact Le.refl _  | (with_reducible refine Le.bind ?_ (fun y => ?_)) | (with_reducible refine Le.bif ?_ ?_) | (with_reducible refine Le.loop (fun s => ?_) _ _) | (with_reducible refine Le.atO (fun e => ?_)) | split)
noncomputable def e_graph_Peripheral (n_ : Nat) : (((List (List Int)) × Unit) × Int × Unit) → Option (Int × Unit) := fun (g_1, v_2, _) =>
  Option.bind (α := Unit ⊕ (Int × Unit)) (
  (e_graph_Check n_ (g_1, ())).bind fun (r3, _) =>
  (bif ((r3 != ((0) : Int)) == false) then ((e_graph_vertex n_ (g_1, v_2, ())).bind fun (r4, _) =>
  (bif (!r4) then (
  some (.inr ((-1 : Int), ()))) else (
  some (.inl ())))) else (some (.inr ((-1 : Int), ()))))) fun q => match q with
  | .inl _ => (
  (e_graph_levels n_ (g_1, v_2, ())).bind fun (r5, _) =>
  (loopN (σ := (Int × (List (List Int)) × Unit)) (ρ := (Int × Unit)) (fun (v_6, now_7, _) =>
  (getI now_7 (IntKind.i64.wrap ((((now_7).length : Nat) : Int) - ((1) : Int)))).bind fun y8 =>
  (getI y8 ((0) : Int)).bind fun y9 =>
  (loopN (σ := (Int × Int × Unit)) (ρ := (Int × Unit)) (fun (w_10, s_11, _) =>
  (bif (decide (s_11 < (((y8).length : Nat) : Int))) then (
  Option.bind (α := (Int × Unit)) (
  (getI y8 s_11).bind fun y12 =>
  (getI g_1.1 y12).bind fun y13 =>
  (getI g_1.1 w_10).bind fun y14 =>
  (bif (decide ((((y13).length : Nat) : Int) < (((y14).length : Nat) : Int))) then (
  some (y12, ())) else (
  some (w_10, ())))) fun (w_15, _) =>
  some (.inl (w_15, (IntKind.i64.wrap (s_11 + ((1) : Int))), ()))) else (
  some (.inr (w_10, ()))))) n_ (y9, ((0) : Int), ())).bind fun (w_16, _) =>
  (e_graph_levels n_ (g_1, w_16, ())).bind fun (r17, _) =>
  (bif (decide ((((r17).length : Nat) : Int) ≤ (((now_7).length : Nat) : Int))) then (
  some (.inr (v_6, ()))) else (
  some (.inl (w_16, r17, ()))))) n_ (v_2, r5, ())).bind some)
  | .inr r => some r
set_option maxHeartbeats 4000000 in
theorem le_graph_Peripheral (n_ : Nat) (a : (((List (List Int)) × Unit) × Int × Unit)) : Le (e_graph_Peripheral n_ a) (d_graph_Peripheral a) := by
  unfold e_graph_Peripheral d_graph_Peripheral
  repeat' (first | with_reducible exact Le.refl _ | with_reducible exact le_graph_Check _ _ | with_reducible exact le_graph_levels _ _ | with_reducible exact le_graph_vertex _ _ | (with_reducible refine Le.bind ?_ (fun y => ?_)) | (with_reducible refine Le.bif ?_ ?_) | (with_reducible refine Le.loop (fun s => ?_) _ _) | (with_reducible refine Le.atO (fun e => ?_)) | split)
noncomputable def e_cmp_Compare_int (n_ : Nat) : (Int × Int × Unit) → Option (Int × Unit) := fun (x_1, y_2, _) =>
  (e_cmp_isNaN_int n_ (x_1, ())).bind fun (r3, _) =>
  (e_cmp_isNaN_int n_ (y_2, ())).bind fun (r4, _) =>
  (bif r3 then (
  (bif r4 then (
  some (((0) : Int), ())) else (
  some ((-1 : Int), ())))) else (
  (bif r4 then (
  some (((1) : Int), ())) else (
  (bif (decide (x_1 < y_2)) then (
  some ((-1 : Int), ())) else (
  (bif (decide (x_1 > y_2)) then (
  some (((1) : Int), ())) else (
  some (((0) : Int), ())))))))))
set_option maxHeartbeats 4000000 in
theorem le_cmp_Compare_int (n_ : Nat) (a : (Int × Int × Unit)) : Le (e_cmp_Compare_int n_ a) (d_cmp_Compare_int a) := by
  unfold e_cmp_Compare_int d_cmp_Compare_int
  repeat' (first | with_reducible exact Le.refl _ | with_reducible exact le_cmp_isNaN_int _ _ | (with_reducible refine Le.bind ?_ (fun y => ?_)) | (with_reducible refine Le.bif ?_ ?_) | (with_reducible refine Le.loop (fun s => ?_) _ _) | (with_reducible refine Le.atO (fun e => ?_)) | split)
noncomputable def e_cmp_Or_int (n_ : Nat) : ((List Int) × Unit) → Option (Int × Unit) := fun (vals_1, _) =>
  (loopN (σ := (Int × Unit)) (ρ := (Unit ⊕ (Int × Unit))) (fun (s_2, _) =>
  (bif (decide (s_2 < (((vals_1).length : Nat) : Int))) then (
  (getI vals_1 s_2).bind fun y3 =>
  (bif (y3 != ((0) : Int)) then (
  some (.inr (.inr (y3, ())))) else (
  some (.inl ((IntKind.i64.wrap (s_2 + ((1) : Int))), ()))))) else (
  some (.inr (.inl ()))))) n_ (((0) : Int), ())).bind fun q => match q with
  | .inl _ => (
  some (((0) : Int), ()))
  | .inr r => some r
set_option maxHeartbeats 4000000 in
theorem le_cmp_Or_int (n_ : Nat) (a : ((List Int) × Unit)) : Le (e_cmp_Or_int n_ a) (d_cmp_Or_int a) := by
  unfold e_cmp_Or_int d_cmp_Or_int
  repeat' (first | with_reducible exact Le.refl _  | (with_reducible refine Le.bind ?_ (fun y => ?_)) | (with_reducible refine Le.bif ?_ ?_) | (with_reducible refine Le.loop (fun s => ?_) _ _) | (with_reducible refine Le.atO (fun e => ?_)) | split)
noncomputable def e_rcm_grow_1q_q0 (n_ : Nat) : (Int × Int × (Option ((List (List Int)) × Unit)) × Unit) → Option (Int × Unit) := fun (a_1, b_2, p_3, _) =>
  (p_3).bind fun y4 =>
  (getI y4.1 a_1).bind fun y5 =>
  (p_3).bind fun y6 =>
  (getI y6.1 b_2).bind fun y7 =>
  (e_cmp_Compare_int n_ ((((y5).length : Nat) : Int), (((y7).length : Nat) : Int), ())).bind fun (r8, _) =>
  (e_cmp_Compare_int n_ (a_1, b_2, ())).bind fun (r9, _) =>
  (e_cmp_Or_int n_ ([r8, r9], ())).bind fun (r10, _) =>
  some (r10, ())
set_option maxHeartbeats 4000000 in
theorem le_rcm_grow_1q_q0 (n_ : Nat) (a : (Int × Int × (Option ((List (List Int)) × Unit)) × Unit)) : Le (e_rcm_grow_1q_q0 n_ a) (d_rcm_grow_1q_q0 a) := by
  unfold e_rcm_grow_1q_q0 d_rcm_grow_1q_q0
  repeat' (first | with_reducible exact Le.refl _ | with_reducible exact le_cmp_Or_int _ _ | with_reducible exact le_cmp_Compare_int _ _ | (with_reducible refine Le.bind ?_ (fun y => ?_)) | (with_reducible refine Le.bif ?_ ?_) | (with_reducible refine Le.loop (fun s => ?_) _ _) | (with_reducible refine Le.atO (fun e => ?_)) | split)
noncomputable def e_slices_insertionSortCmpFunc_int_rcm (n_ : Nat) : ((List Int) × Int × Int × ((Option ((List (List Int)) × Unit)) × Unit) × Unit) → Option ((List Int) × Unit) := fun (data_1, a_2, b_3, cmp_4, _) =>
  (loopN (σ := (Int × (List Int) × Unit)) (ρ := ((List Int) × Unit)) (fun (i_5, data_6, _) =>
  (bif (decide (i_5 < b_3)) then (
  (loopN (σ := (Int × (List Int) × Unit)) (ρ := ((List Int) × Unit)) (fun (j_7, data_8, _) =>
  Option.bind (α := ((List Int) × Unit) ⊕ ((Int × (List Int) × Unit) ⊕ ((List Int) × Unit))) (
  (bif ((decide (j_7 > a_2)) == true) then ((idxN (data_8).length j_7).bind fun k9 =>
  ((atO data_8 k9 fun e10 => some e10)).bind fun y11 =>
  (idxN (data_8).length (IntKind.i64.wrap (j_7 - ((1) : Int)))).bind fun k12 =>
  ((atO data_8 k12 fun e13 => some e13)).bind fun y14 =>
  (e_rcm_grow_1q_q0 n_ (y11, y14, cmp_4.1, ())).bind fun (r15, _) =>
  (bif (decide (r15 < ((0) : Int))) then (
  some (.inl (data_8, ()))) else (
  some (.inr (.inr (data_8, ())))))) else (some (.inr (.inr (data_8, ())))))) fun q => match q with
  | .inl (data_16, _) => (
  (idxN (data_16).length (IntKind.i64.wrap (j_7 - ((1) : Int)))).bind fun k17 =>
  ((atO data_16 k17 fun e18 => some e18)).bind fun y19 =>
  (idxN (data_16).length j_7).bind fun k20 =>
  ((atO data_16 k20 fun e21 => some e21)).bind fun y22 =>
  (idxN (data_16).length j_7).bind fun k23 =>
  ((atO data_16 k23 fun _ => some ((data_16).set k23 y19))).bind fun z25 =>
  (idxN (z25).length (IntKind.i64.wrap (j_7 - ((1) : Int)))).bind fun k26 =>
  ((atO z25 k26 fun _ => some ((z25).set k26 y22))).bind fun z28 =>
  some (.inl ((IntKind.i64.wrap (j_7 - ((1) : Int))), z28, ())))
  | .inr r => some r) n_ (i_5, data_6, ())).bind fun (data_29, _) =>
  some (.inl ((IntKind.i64.wrap (i_5 + ((1) : Int))), data_29, ()))) else (
  some (.inr (data_6, ()))))) n_ ((IntKind.i64.wrap (a_2 + ((1) : Int))), data_1, ())).bind fun (data_30, _) =>
  some (data_30, ())
set_option maxHeartbeats 4000000 in
theorem le_slices_insertionSortCmpFunc_int_rcm (n_ : Nat) (a : ((List Int) × Int × Int × ((Option ((List (List Int)) × Unit)) × Unit) × Unit)) : Le (e_slices_insertionSortCmpFunc_int_rcm n_ a) (d_slices_insertionSortCmpFunc_int_rcm a) := by
  unfold e_slices_insertionSortCmpFunc_int_rcm d_slices_insertionSortCmpFunc_int_rcm
  repeat' (first | with_reducible exact Le.refl _ | with_reducible exact le_rcm_grow_1q_q0 _ _ | (with_reducible refine Le.bind ?_ (fun y => ?_)) | (with_reducible refine Le.bif ?_ ?_) | (with_reducible refine Le.loop (fun s => ?_) _ _) | (with_reducible refine Le.atO (fun e => ?_)) | split)
noncomputable def e_slices_siftDownCmpFunc_int_rcm (n_ : Nat) : ((List Int) × Int × Int × Int × ((Option ((List (List Int)) × Unit)) × Unit) × Unit) → Option ((List Int) × Unit) := fun (data_1, lo_2, hi_3, first_4, cmp_5, _) =>
  (loopN (σ := (Int × (List Int) × Unit)) (ρ := (((List Int) × Unit) ⊕ ((List Int) × Unit))) (fun (root_6, data_7, _) =>
  (bif (decide ((IntKind.i64.wrap ((IntKind.i64.wrap (((2) : Int) * root_6)) + ((1) : Int))) ≥ hi_3)) then (
  some (.inr (.inl (data_7, ())))) else (
  Option.bind (α := (Int × (List Int) × Unit)) (
  Option.bind (α := (Bool × (List Int) × Unit)) (
  (bif ((decide ((IntKind.i64.wrap ((IntKind.i64.wrap ((IntKind.i64.wrap (((2) : Int) * root_6)) + ((1) : Int))) + ((1) : Int))) < hi_3)) == true) then ((idxN (data_7).length (IntKind.i64.wrap (first_4 + (IntKind.i64.wrap ((IntKind.i64.wrap (((2) : Int) * root_6)) + ((1) : Int)))))).bind fun k8 =>
  ((atO data_7 k8 fun e9 => some e9)).bind fun y10 =>
  (idxN (data_7).length (IntKind.i64.wrap ((IntKind.i64.wrap (first_4 + (IntKind.i64.wrap ((IntKind.i64.wrap (((2) : Int) * root_6)) + ((1) : Int))))) + ((1) : Int)))).bind fun k11 =>
  ((atO data_7 k11 fun e12 => some e12)).bind fun y13 =>
  (e_rcm_grow_1q_q0 n_ (y10, y13, cmp_5.1, ())).bind fun (r14, _) =>
  some ((decide (r14 < ((0) : Int))), data_7, ())) else (some (false, data_7, ())))) fun (s_15, data_16, _) =>
  (bif s_15 then (
  some ((IntKind.i64.wrap ((IntKind.i64.wrap ((IntKind.i64.wrap (((2) : Int) * root_6)) + ((1) : Int))) + ((1) : Int))), data_16, ())) else (
  some ((IntKind.i64.wrap ((IntKind.i64.wrap (((2) : Int) * root_6)) + ((1) : Int))), data_16, ())))) fun (child_17, data_18, _) =>
  (idxN (data_18).length (IntKind.i64.wrap (first_4 + root_6))).bind fun k19 =>
  ((atO data_18 k19 fun e20 => some e20)).bind fun y21 =>
  (idxN (data_18).length (IntKind.i64.wrap (first_4 + child_17))).bind fun k22 =>
  ((atO data_18 k22 fun e23 => some e23)).bind fun y24 =>
  (e_rcm_grow_1q_q0 n_ (y21, y24, cmp_5.1, ())).bind fun (r25, _) =>
  (bif (!(decide (r25 < ((0) : Int)))) then (
  some (.inr (.inr (data_18, ())))) else (
  (idxN (data_18).length (IntKind.i64.wrap (first_4 + child_17))).bind fun k26 =>
  ((atO data_18 k26 fun e27 => some e27)).bind fun y28 =>
  (idxN (data_18).length (IntKind.i64.wrap (first_4 + root_6))).bind fun k29 =>
  ((atO data_18 k29 fun e30 => some e30)).bind fun y31 =>
  (idxN (data_18).length (IntKind.i64.wrap (first_4 + root_6))).bind fun k32 =>
  ((atO data_18 k32 fun _ => some ((data_18).set k32 y28))).bind fun z34 =>
  (idxN (z34).length (IntKind.i64.wrap (first_4 + child_17))).bind fun k35 =>
  ((atO z34 k35 fun _ => some ((z34).set k35 y31))).bind fun z37 =>
  some (.inl (child_17, z37, ()))))))) n_ (lo_2, data_1, ())).bind fun q => match q with
  | .inl (data_38, _) => (
  some (data_38, ()))
  | .inr r => some r
set_option maxHeartbeats 4000000 in
theorem le_slices_siftDownCmpFunc_int_rcm (n_ : Nat) (a : ((List Int) × Int × Int × Int × ((Option ((List (List Int)) × Unit)) × Unit) × Unit)) : Le (e_slices_siftDownCmpFunc_int_rcm n_ a) (d_slices_siftDownCmpFunc_int_rcm a) := by
  unfold e_slices_siftDownCmpFunc_int_rcm d_slices_siftDownCmpFunc_int_rcm
  repeat' (first | with_reducible exact Le.refl _ | with_reducible exact le_rcm_grow_1q_q0 _ _ | (with_reducible refine Le.bind ?_ (fun y => ?_)) | (with_reducible refine Le.bif ?_ ?_) | (with_reducible refine Le.loop (fun s => ?_) _ _) | (with_reducible refine Le.atO (fun e => ?_)) | split)
noncomputable def e_slices_heapSortCmpFunc_int_rcm (n_ : Nat) : ((List Int) × Int × Int × ((Option ((List (List Int)) × Unit)) × Unit) × Unit) → Option ((List Int) × Unit) := fun (data_1, a_2, b_3, cmp_4, _) =>
  (quoO IntKind.i64 (IntKind.i64.wrap ((IntKind.i64.wrap (b_3 - a_2)) - ((1) : Int))) ((2) : Int)).bind fun y5 =>
  (loopN (σ := (Int × (List Int) × Unit)) (ρ := ((List Int) × Unit)) (fun (i_6, data_7, _) =>
  (bif (decide (i_6 ≥ ((0) : Int))) then (
  (e_slices_siftDownCmpFunc_int_rcm n_ (data_7, i_6, (IntKind.i64.wrap (b_3 - a_2)), a_2, (cmp_4.1, ()), ())).bind fun (m8, _) =>
  some (.inl ((IntKind.i64.wrap (i_6 - ((1) : Int))), m8, ()))) else (
  some (.inr (data_7, ()))))) n_ (y5, data_1, ())).bind fun (data_9, _) =>
  (loopN (σ := (Int × (List Int) × Unit)) (ρ := ((List Int) × Unit)) (fun (i_10, data_11, _) =>
  (bif (decide (i_10 ≥ ((0) : Int))) then (
  (idxN (data_11).length (IntKind.i64.wrap (a_2 + i_10))).bind fun k12 =>
  ((atO data_11 k12 fun e13 => some e13)).bind fun y14 =>
  (idxN (data_11).length a_2).bind fun k15 =>
  ((atO data_11 k15 fun e16 => some e16)).bind fun y17 =>
  (idxN (data_11).length a_2).bind fun k18 =>
  ((atO data_11 k18 fun _ => some ((data_11).set k18 y14))).bind fun z20 =>
  (idxN (z20).length (IntKind.i64.wrap (a_2 + i_10))).bind fun k21 =>
  ((atO z20 k21 fun _ => some ((z20).set k21 y17))).bind fun z23 =>
  (e_slices_siftDownCmpFunc_int_rcm n_ (z23, ((0) : Int), i_10, a_2, (cmp_4.1, ()), ())).bind fun (m24, _) =>
  some (.inl ((IntKind.i64.wrap (i_10 - ((1) : Int))), m24, ()))) else (
  some (.inr (data_11, ()))))) n_ ((IntKind.i64.wrap ((IntKind.i64.wrap (b_3 - a_2)) - ((1) : Int))), data_9, ())).bind fun (data_25, _) =>
  some (data_25, ())
set_option maxHeartbeats 4000000 in
theorem le_slices_heapSortCmpFunc_int_rcm (n_ : Nat) (a : ((List Int) × Int × Int × ((Option ((List (List Int)) × Unit)) × Unit) × Unit)) : Le (e_slices_heapSortCmpFunc_int_rcm n_ a) (d_slices_heapSortCmpFunc_int_rcm a) := by
  unfold e_slices_heapSortCmpFunc_int_rcm d_slices_heapSortCmpFunc_int_rcm
  repeat' (first | with_reducible exact Le.refl _ | with_reducible exact le_slices_siftDownCmpFunc_int_rcm _ _ | (with_reducible refine Le.bind ?_ (fun y => ?_)) | (with_reducible refine Le.bif ?_ ?_) | (with_reducible refine Le.loop (fun s => ?_) _ _) | (with_reducible refine Le.atO (fun e => ?_)) | split)
noncomputable def e_slices_breakPatternsCmpFunc_int_rcm (n_ : Nat) : ((List Int) × Int × Int × ((Option ((List (List Int)) × Unit)) × Unit) × Unit) → Option ((List Int) × Unit) := fun (data_1, a_2, b_3, _, _) =>
  (bif (decide ((IntKind.i64.wrap (b_3 - a_2)) ≥ ((8) : Int))) then (
  (e_slices_nextPowerOfTwo n_ ((IntKind.i64.wrap (b_3 - a_2)), ())).bind fun (r5, _) =>
  (quoO IntKind.i64 (IntKind.i64.wrap (b_3 - a_2)) ((4) : Int)).bind fun y6 =>
  (loopN (σ := (Int × (List Int) × Int × Unit)) (ρ := ((List Int) × Unit)) (fun (idx_7, data_8, random_9, _) =>
  (quoO IntKind.i64 (IntKind.i64.wrap (b_3 - a_2)) ((4) : Int)).bind fun y10 =>
  (bif (decide (idx_7 ≤ (IntKind.i64.wrap ((IntKind.i64.wrap (a_2 + (IntKind.i64.wrap (y10 * ((2) : Int))))) + ((1) : Int))))) then (
  Option.bind (α := ((List Int) × Int × Unit)) (
  (e_slices_xorshift_Next n_ (random_9, ())).bind fun (m11, r12, _) =>
  Option.bind (α := (Int × (List Int) × Int × Unit)) (
  (bif (decide ((IntKind.i64.wrap (andI IntKind.u64 r12 (IntKind.u64.wrap (r5 - ((1) : Int))))) ≥ (IntKind.i64.wrap (b_3 - a_2)))) then (
  some ((IntKind.i64.wrap ((IntKind.i64.wrap (andI IntKind.u64 r12 (IntKind.u64.wrap (r5 - ((1) : Int))))) - (IntKind.i64.wrap (b_3 - a_2)))), data_8, m11, ())) else (
  some ((IntKind.i64.wrap (andI IntKind.u64 r12 (IntKind.u64.wrap (r5 - ((1) : Int))))), data_8, m11, ())))) fun (other_13, data_14, random_15, _) =>
  (idxN (data_14).length (IntKind.i64.wrap (a_2 + other_13))).bind fun k16 =>
  ((atO data_14 k16 fun e17 => some e17)).bind fun y18 =>
  (idxN (data_14).length idx_7).bind fun k19 =>
  ((atO data_14 k19 fun e20 => some e20)).bind fun y21 =>
  (idxN (data_14).length idx_7).bind fun k22 =>
  ((atO data_14 k22 fun _ => some ((data_14).set k22 y18))).bind fun z24 =>
  (idxN (z24).length (IntKind.i64.wrap (a_2 + other_13))).bind fun k25 =>
  ((atO z24 k25 fun _ => some ((z24).set k25 y21))).bind fun z27 =>
  some (z27, random_15, ())) fun (data_28, random_29, _) =>
  some (.inl ((IntKind.i64.wrap (idx_7 + ((1) : Int))), data_28, random_29, ()))) else (
  some (.inr (data_8, ()))))) n_ ((IntKind.i64.wrap ((IntKind.i64.wrap (a_2 + (IntKind.i64.wrap (y6 * ((2) : Int))))) - ((1) : Int))), data_1, (IntKind.u64.wrap (IntKind.i64.wrap (b_3 - a_2))), ())).bind fun (data_30, _) =>
  some (data_30, ())) else (
  some (data_1, ())))
set_option maxHeartbeats 4000000 in
theorem le_slices_breakPatternsCmpFunc_int_rcm (n_ : Nat) (a : ((List Int) × Int × Int × ((Option ((List (List Int)) × Unit)) × Unit) × Unit)) : Le (e_slices_breakPatternsCmpFunc_int_rcm n_ a) (d_slices_breakPatternsCmpFunc_int_rcm a) := by
  unfold e_slices_breakPatternsCmpFunc_int_rcm d_slices_breakPatternsCmpFunc_int_rcm
  repeat' (first | with_reducible exact Le.refl _ | with_reducible exact le_slices_nextPowerOfTwo _ _ | with_reducible exact le_slices_xorshift_Next _ _ | (with_reducible refine Le.bind ?_ (fun y => ?_)) | (with_reducible refine Le.bif ?_ ?_) | (with_reducible refine Le.loop (fun s => ?_) _ _) | (with_reducible refine Le.atO (fun e => ?_)) | split)
noncomputable def e_slices_order2CmpFunc_int_rcm (n_ : Nat) : ((List Int) × Int × Int × Int × ((Option ((List (List Int)) × Unit)) × Unit) × Unit) → Option (Int × Int × Int × Unit) := fun (data_1, a_2, b_3, swaps_4, cmp_5, _) =>
  (getI data_1 b_3).bind fun y6 =>
  (getI data_1 a_2).bind fun y7 =>
  (e_rcm_grow_1q_q0 n_ (y6, y7, cmp_5.1, ())).bind fun (r8, _) =>
  (bif (decide (r8 < ((0) : Int))) then (
  some ((IntKind.i64.wrap (swaps_4 + ((1) : Int))), b_3, a_2, ())) else (
  some (swaps_4, a_2, b_3, ())))
set_option maxHeartbeats 4000000 in
theorem le_slices_order2CmpFunc_int_rcm (n_ : Nat) (a : ((List Int) × Int × Int × Int × ((Option ((List (List Int)) × Unit)) × Unit) × Unit)) : Le (e_slices_order2CmpFunc_int_rcm n_ a) (d_slices_order2CmpFunc_int_rcm a) := by
  unfold e_slices_order2CmpFunc_int_rcm d_slices_order2CmpFunc_int_rcm
  repeat' (first | with_reducible exact Le.refl _ | with_reducible exact le_rcm_grow_1q_q0 _ _ | (with_reducible refine Le.bind ?_ (fun y => ?_)) | (with_reducible refine Le.bif ?_ ?_) | (with_reducible refine Le.loop (fun s => ?_) _ _) | (with_reducible refine Le.atO (fun e => ?_)) | split)
noncomputable def e_slices_medianCmpFunc_int_rcm (n_ : Nat) : ((List Int) × Int × Int × Int × Int × ((Option ((List (List Int)) × Unit)) × Unit) × Unit) → Option (Int × Int × Unit) := fun (data_1, a_2, b_3, c_4, swaps_5, cmp_6, _) =>
  (e_slices_order2CmpFunc_int_rcm n_ (data_1, a_2, b_3, swaps_5, (cmp_6.1, ()), ())).bind fun (m7, r8, r9, _) =>
  (e_slices_order2CmpFunc_int_rcm n_ (data_1, r9, c_4, m7, (cmp_6.1, ()), ())).bind fun (m10, r11, _, _) =>
  (e_slices_order2CmpFunc_int_rcm n_ (data_1, r8, r11, m10, (cmp_6.1, ()), ())).bind fun (m13, _, r15, _) =>
  some (m13, r15, ())
set_option maxHeartbeats 4000000 in
theorem le_slices_medianCmpFunc_int_rcm (n_ : Nat) (a : ((List Int) × Int × Int × Int × Int × ((Option ((List (List Int)) × Unit)) × Unit) × Unit)) : Le (e_slices_medianCmpFunc_int_rcm n_ a) (d_slices_medianCmpFunc_int_rcm a) := by
  unfold e_slices_medianCmpFunc_int_rcm d_slices_medianCmpFunc_int_rcm
  repeat' (first | with_reducible exact Le.refl _ | with_reducible exact le_slices_order2CmpFunc_int_rcm _ _ | (with_reducible refine Le.bind ?_ (fun y => ?_)) | (with_reducible refine Le.bif ?_ ?_) | (with_reducible refine Le.loop (fun s => ?_) _ _) | (with_reducible refine Le.atO (fun e => ?_)) | split)
noncomputable def e_slices_medianAdjacentCmpFunc_int_rcm (n_ : Nat) : ((List Int) × Int × Int × ((Option ((List (List Int)) × Unit)) × Unit) × Unit) → Option (Int × Int × Unit) := fun (data_1, a_2, swaps_3, cmp_4, _) =>
  (e_slices_medianCmpFunc_int_rcm n_ (data_1, (IntKind.i64.wrap (a_2 - ((1) : Int))), a_2, (IntKind.i64.wrap (a_2 + ((1) : Int))), swaps_3, (cmp_4.1, ()), ())).bind fun (m5, r6, _) =>
  some (m5, r6, ())
set_option maxHeartbeats 4000000 in
theorem le_slices_medianAdjacentCmpFunc_int_rcm (n_ : Nat) (a : ((List Int) × Int × Int × ((Option ((List (List Int)) × Unit)) × Unit) × Unit)) : Le (e_slices_medianAdjacentCmpFunc_int_rcm n_ a) (d_slices_medianAdjacentCmpFunc_int_rcm a) := by
  unfold e_slices_medianAdjacentCmpFunc_int_rcm d_slices_medianAdjacentCmpFunc_int_rcm
  repeat' (first | with_reducible exact Le.refl _ | with_reducible exact le_slices_medianCmpFunc_int_rcm _ _ | (with_reducible refine Le.bind ?_ (fun y => ?_)) | (with_reducible refine Le.bif ?_ ?_) | (with_reducible refine Le.loop (fun s => ?_) _ _) | (with_reducible refine Le.atO (fun e => ?_)) | split)
noncomputable def e_slices_choosePivotCmpFunc_int_rcm (n_ : Nat) : ((List Int) × Int × Int × ((Option ((List (List Int)) × Unit)) × Unit) × Unit) → Option (Int × Int × Unit) := fun (data_1, a_2, b_3, cmp_4, _) =>
  (quoO IntKind.i64 (IntKind.i64.wrap (b_3 - a_2)) ((4) : Int)).bind fun y5 =>
  (quoO IntKind.i64 (IntKind.i64.wrap (b_3 - a_2)) ((4) : Int)).bind fun y6 =>
  (quoO IntKind.i64 (IntKind.i64.wrap (b_3 - a_2)) ((4) : Int)).bind fun y7 =>
  Option.bind (α := (Int × Int × Unit)) (
  (bif (decide ((IntKind.i64.wrap (b_3 - a_2)) ≥ ((8) : Int))) then (
  Option.bind (α := (Int × Int × Int × Int × Unit)) (
  (bif (decide ((IntKind.i64.wrap (b_3 - a_2)) ≥ ((50) : Int))) then (
  (e_slices_medianAdjacentCmpFunc_int_rcm n_ (data_1, (IntKind.i64.wrap (a_2 + (IntKind.i64.wrap (y5 * ((1) : Int))))), (0 : Int), (cmp_4.1, ()), ())).bind fun (m8, r9, _) =>
  (e_slices_medianAdjacentCmpFunc_int_rcm n_ (data_1, (IntKind.i64.wrap (a_2 + (IntKind.i64.wrap (y6 * ((2) : Int))))), m8, (cmp_4.1, ()), ())).bind fun (m10, r11, _) =>
  (e_slices_medianAdjacentCmpFunc_int_rcm n_ (data_1, (IntKind.i64.wrap (a_2 + (IntKind.i64.wrap (y7 * ((3) : Int))))), m10, (cmp_4.1, ()), ())).bind fun (m12, r13, _) =>
  some (r9, r11, r13, m12, ())) else (
  some ((IntKind.i64.wrap (a_2 + (IntKind.i64.wrap (y5 * ((1) : Int))))), (IntKind.i64.wrap (a_2 + (IntKind.i64.wrap (y6 * ((2) : Int))))), (IntKind.i64.wrap (a_2 + (IntKind.i64.wrap (y7 * ((3) : Int))))), (0 : Int), ())))) fun (i_14, j_15, k_16, swaps_17, _) =>
  (e_slices_medianCmpFunc_int_rcm n_ (data_1, i_14, j_15, k_16, swaps_17, (cmp_4.1, ()), ())).bind fun (m18, r19, _) =>
  some (r19, m18, ())) else (
  some ((IntKind.i64.wrap (a_2 + (IntKind.i64.wrap (y6 * ((2) : Int))))), (0 : Int), ())))) fun (j_20, swaps_21, _) =>
  (bif (swaps_21 == ((0) : Int)) then (
  some (j_20, ((1) : Int), ())) else (
  (bif (swaps_21 == ((12) : Int)) then (
  some (j_20, ((2) : Int), ())) else (
  some (j_20, ((0) : Int), ())))))
set_option maxHeartbeats 4000000 in
theorem le_slices_choosePivotCmpFunc_int_rcm (n_ : Nat) (a : ((List Int) × Int × Int × ((Option ((List (List Int)) × Unit)) × Unit) × Unit)) : Le (e_slices_choosePivotCmpFunc_int_rcm n_ a) (d_slices_choosePivotCmpFunc_int_rcm a) := by
  unfold e_slices_choosePivotCmpFunc_int_rcm d_slices_choosePivotCmpFunc_int_rcm
  repeat' (first | with_reducible exact Le.refl _ | with_reducible exact le_slices_medianAdjacentCmpFunc_int_rcm _ _ | with_reducible exact le_slices_medianCmpFunc_int_rcm _ _ | (with_reducible refine Le.bind ?_ (fun y => ?_)) | (with_reducible refine Le.bif ?_ ?_) | (with_reducible refine Le.loop (fun s => ?_) _ _) | (with_reducible refine Le.atO (fun e => ?_)) | split)
noncomputable def e_slices_reverseRangeCmpFunc_int_rcm (n_ : Nat) : ((List Int) × Int × Int × ((Option ((List (List Int)) × Unit)) × Unit) × Unit) → Option ((List Int) × Unit) := fun (data_1, a_2, b_3, _, _) =>
  (loopN (σ := (Int × Int × (List Int) × Unit)) (ρ := ((List Int) × Unit)) (fun (i_5, j_6, data_7, _) =>
  (bif (decide (i_5 < j_6)) then (
  (idxN (data_7).length j_6).bind fun k8 =>
  ((atO data_7 k8 fun e9 => some e9)).bind fun y10 =>
  (idxN (data_7).length i_5).bind fun k11 =>
  ((atO data_7 k11 fun e12 => some e12)).bind fun y13 =>
  (idxN (data_7).length i_5).bind fun k14 =>
  ((atO data_7 k14 fun _ => some ((data_7).set k14 y10))).bind fun z16 =>
  (idxN (z16).length j_6).bind fun k17 =>
  ((atO z16 k17 fun _ => some ((z16).set k17 y13))).bind fun z19 =>
  some (.inl ((IntKind.i64.wrap (i_5 + ((1) : Int))), (IntKind.i64.wrap (j_6 - ((1) : Int))), z19, ()))) else (
  some (.inr (data_7, ()))))) n_ (a_2, (IntKind.i64.wrap (b_3 - ((1) : Int))), data_1, ())).bind fun (data_20, _) =>
  some (data_20, ())
set_option maxHeartbeats 4000000 in
theorem le_slices_reverseRangeCmpFunc_int_rcm (n_ : Nat) (a : ((List Int) × Int × Int × ((Option ((List (List Int)) × Unit)) × Unit) × Unit)) : Le (e_slices_reverseRangeCmpFunc_int_rcm n_ a) (d_slices_reverseRangeCmpFunc_int_rcm a) := by
  unfold e_slices_reverseRangeCmpFunc_int_rcm d_slices_reverseRangeCmpFunc_int_rcm
  repeat' (first | with_reducible exact Le.refl _  | (with_reducible refine Le.bind ?_ (fun y => ?_)) | (with_reducible refine Le.bif ?_ ?_) | (with_reducible refine Le.loop (fun s => ?_) _ _) | (with_reducible refine Le.atO (fun e => ?_)) | split)
noncomputable def e_slices_partialInsertionSortCmpFunc_int_rcm (n_ : Nat) : ((List Int) × Int × Int × ((Option ((List (List Int)) × Unit)) × Unit) × Unit) → Option ((List Int) × Bool × Unit) := fun (data_1, a_2, b_3, cmp_4, _) =>
  (loopN (σ := (Int × Int × (List Int) × Unit)) (ρ := (((List Int) × Unit) ⊕ ((List Int) × Bool × Unit))) (fun (i_5, j_6, data_7, _) =>
  (bif (decide (j_6 < ((5) : Int))) then (
  Option.bind (α := (Int × (List Int) × Unit) ⊕ ((Int × Int × (List Int) × Unit) ⊕ (((List Int) × Unit) ⊕ ((List Int) × Bool × Unit)))) (
  (loopN (σ := (Int × (List Int) × Unit)) (ρ := (Int × (List Int) × Unit)) (fun (i_8, data_9, _) =>
  Option.bind (α := ((List Int) × Unit) ⊕ ((Int × (List Int) × Unit) ⊕ (Int × (List Int) × Unit))) (
  (bif ((decide (i_8 < b_3)) == true) then ((idxN (data_9).length i_8).bind fun k10 =>
  ((atO data_9 k10 fun e11 => some e11)).bind fun y12 =>
  (idxN (data_9).length (IntKind.i64.wrap (i_8 - ((1) : Int)))).bind fun k13 =>
  ((atO data_9 k13 fun e14 => some e14)).bind fun y15 =>
  (e_rcm_grow_1q_q0 n_ (y12, y15, cmp_4.1, ())).bind fun (r16, _) =>
  (bif (!(decide (r16 < ((0) : Int)))) then (
  some (.inl (data_9, ()))) else (
  some (.inr (.inr (i_8, data_9, ())))))) else (some (.inr (.inr (i_8, data_9, ())))))) fun q => match q with
  | .inl (data_17, _) => (
  some (.inl ((IntKind.i64.wrap (i_8 + ((1) : Int))), data_17, ())))
  | .inr r => some r) n_ (i_5, data_7, ())).bind fun (i_18, data_19, _) =>
  (bif (i_18 == b_3) then (
  some (.inr (.inr (.inr (data_19, true, ()))))) else (
  (bif (decide ((IntKind.i64.wrap (b_3 - a_2)) < ((50) : Int))) then (
  some (.inr (.inr (.inr (data_19, false, ()))))) else (
  (idxN (data_19).length (IntKind.i64.wrap (i_18 - ((1) : Int)))).bind fun k20 =>
  ((atO data_19 k20 fun e21 => some e21)).bind fun y22 =>
  (idxN (data_19).length i_18).bind fun k23 =>
  ((atO data_19 k23 fun e24 => some e24)).bind fun y25 =>
  (idxN (data_19).length i_18).bind fun k26 =>
  ((atO data_19 k26 fun _ => some ((data_19).set k26 y22))).bind fun z28 =>
  (idxN (z28).length (IntKind.i64.wrap (i_18 - ((1) : Int)))).bind fun k29 =>
  ((atO z28 k29 fun _ => some ((z28).set k29 y25))).bind fun z31 =>
  Option.bind (α := ((List Int) × Unit)) (
  (bif (decide ((IntKind.i64.wrap (i_18 - a_2)) ≥ ((2) : Int))) then (
  (loopN (σ := (Int × (List Int) × Unit)) (ρ := ((List Int) × Unit)) (fun (j_32, data_33, _) =>
  (bif (decide (j_32 ≥ ((1) : Int))) then (
  (idxN (data_33).length j_32).bind fun k34 =>
  ((atO data_33 k34 fun e35 => some e35)).bind fun y36 =>
  (idxN (data_33).length (IntKind.i64.wrap (j_32 - ((1) : Int)))).bind fun k37 =>
  ((atO data_33 k37 fun e38 => some e38)).bind fun y39 =>
  (e_rcm_grow_1q_q0 n_ (y36, y39, cmp_4.1, ())).bind fun (r40, _) =>
  (bif (!(decide (r40 < ((0) : Int)))) then (
  some (.inr (data_33, ()))) else (
  (idxN (data_33).length (IntKind.i64.wrap (j_32 - ((1) : Int)))).bind fun k41 =>
  ((atO data_33 k41 fun e42 => some e42)).bind fun y43 =>
  (idxN (data_33).length j_32).bind fun k44 =>
  ((atO data_33 k44 fun e45 => some e45)).bind fun y46 =>
  (idxN (data_33).length j_32).bind fun k47 =>
  ((atO data_33 k47 fun _ => some ((data_33).set k47 y43))).bind fun z49 =>
  (idxN (z49).length (IntKind.i64.wrap (j_32 - ((1) : Int)))).bind fun k50 =>
  ((atO z49 k50 fun _ => some ((z49).set k50 y46))).bind fun z52 =>
  some (.inl ((IntKind.i64.wrap (j_32 - ((1) : Int))), z52, ()))))) else (
  some (.inr (data_33, ()))))) n_ ((IntKind.i64.wrap (i_18 - ((1) : Int))), z31, ())).bind fun (data_53, _) =>
  some (data_53, ())) else (
  some (z31, ())))) fun (data_54, _) =>
  (bif (decide ((IntKind.i64.wrap (b_3 - i_18)) ≥ ((2) : Int))) then (
  (loopN (σ := (Int × (List Int) × Unit)) (ρ := ((List Int) × Unit)) (fun (j_55, data_56, _) =>
  (bif (decide (j_55 < b_3)) then (
  (idxN (data_56).length j_55).bind fun k57 =>
  ((atO data_56 k57 fun e58 => some e58)).bind fun y59 =>
  (idxN (data_56).length (IntKind.i64.wrap (j_55 - ((1) : Int)))).bind fun k60 =>
  ((atO data_56 k60 fun e61 => some e61)).bind fun y62 =>
  (e_rcm_grow_1q_q0 n_ (y59, y62, cmp_4.1, ())).bind fun (r63, _) =>
  (bif (!(decide (r63 < ((0) : Int)))) then (
  some (.inr (data_56, ()))) else (
  (idxN (data_56).length (IntKind.i64.wrap (j_55 - ((1) : Int)))).bind fun k64 =>
  ((atO data_56 k64 fun e65 => some e65)).bind fun y66 =>
  (idxN (data_56).length j_55).bind fun k67 =>
  ((atO data_56 k67 fun e68 => some e68)).bind fun y69 =>
  (idxN (data_56).length j_55).bind fun k70 =>
  ((atO data_56 k70 fun _ => some ((data_56).set k70 y66))).bind fun z72 =>
  (idxN (z72).length (IntKind.i64.wrap (j_55 - ((1) : Int)))).bind fun k73 =>
  ((atO z72 k73 fun _ => some ((z72).set k73 y69))).bind fun z75 =>
  some (.inl ((IntKind.i64.wrap (j_55 + ((1) : Int))), z75, ()))))) else (
  some (.inr (data_56, ()))))) n_ ((IntKind.i64.wrap (i_18 + ((1) : Int))), data_54, ())).bind fun (data_76, _) =>
  some (.inl (i_18, data_76, ()))) else (
  some (.inl (i_18, data_54, ()))))))))) fun q => match q with
  | .inl (i_77, data_78, _) => (
  some (.inl (i_77, (IntKind.i64.wrap (j_6 + ((1) : Int))), data_78, ())))
  | .inr r => some r) else (
  some (.inr (.inl (data_7, ())))))) n_ ((IntKind.i64.wrap (a_2 + ((1) : Int))), ((0) : Int), data_1, ())).bind fun q => match q with
  | .inl (data_79, _) => (
  some (data_79, false, ()))
  | .inr r => some r
set_option maxHeartbeats 4000000 in
theorem le_slices_partialInsertionSortCmpFunc_int_rcm (n_ : Nat) (a : ((List Int) × Int × Int × ((Option ((List (List Int)) × Unit)) × Unit) × Unit)) : Le (e_slices_partialInsertionSortCmpFunc_int_rcm n_ a) (d_slices_partialInsertionSortCmpFunc_int_rcm a) := by
  unfold e_slices_partialInsertionSortCmpFunc_int_rcm d_slices_partialInsertionSortCmpFunc_int_rcm
  repeat' (first | with_reducible exact Le.refl _ | with_reducible exact le_rcm_grow_1q_q0 _ _ | (with_reducible refine Le.bind ?_ (fun y => ?_)) | (with_reducible refine Le.bif ?_ ?_) | (with_reducible refine Le.loop (fun s => ?_) _ _) | (with_reducible refine Le.atO (fun e => ?_)) | split)
noncomputable def e_slices_partitionEqualCmpFunc_int_rcm (n_ : Nat) : ((List Int) × Int × Int × Int × ((Option ((List (List Int)) × Unit)) × Unit) × Unit) → Option ((List Int) × Int × Unit) := fun (data_1, a_2, b_3, pivot_4, cmp_5, _) =>
  (idxN (data_1).length pivot_4).bind fun k6 =>
  ((atO data_1 k6 fun e7 => some e7)).bind fun y8 =>
  (idxN (data_1).length a_2).bind fun k9 =>
  ((atO data_1 k9 fun e10 => some e10)).bind fun y11 =>
  (idxN (data_1).length a_2).bind fun k12 =>
  ((atO data_1 k12 fun _ => some ((data_1).set k12 y8))).bind fun z14 =>
  (idxN (z14).length pivot_4).bind fun k15 =>
  ((atO z14 k15 fun _ => some ((z14).set k15 y11))).bind fun z17 =>
  (loopN (σ := (Int × Int × (List Int) × Unit)) (ρ := (Int × (List Int) × Unit)) (fun (i_18, j_19, data_20, _) =>
  (loopN (σ := (Int × (List Int) × Unit)) (ρ := (Int × (List Int) × Unit)) (fun (i_21, data_22, _) =>
  Option.bind (α := ((List Int) × Unit) ⊕ ((Int × (List Int) × Unit) ⊕ (Int × (List Int) × Unit))) (
  (bif ((decide (i_21 ≤ j_19)) == true) then ((idxN (data_22).length a_2).bind fun k23 =>
  ((atO data_22 k23 fun e24 => some e24)).bind fun y25 =>
  (idxN (data_22).length i_21).bind fun k26 =>
  ((atO data_22 k26 fun e27 => some e27)).bind fun y28 =>
  (e_rcm_grow_1q_q0 n_ (y25, y28, cmp_5.1, ())).bind fun (r29, _) =>
  (bif (!(decide (r29 < ((0) : Int)))) then (
  some (.inl (data_22, ()))) else (
  some (.inr (.inr (i_21, data_22, ())))))) else (some (.inr (.inr (i_21, data_22, ())))))) fun q => match q with
  | .inl (data_30, _) => (
  some (.inl ((IntKind.i64.wrap (i_21 + ((1) : Int))), data_30, ())))
  | .inr r => some r) n_ (i_18, data_20, ())).bind fun (i_31, data_32, _) =>
  (loopN (σ := (Int × (List Int) × Unit)) (ρ := (Int × (List Int) × Unit)) (fun (j_33, data_34, _) =>
  Option.bind (α := ((List Int) × Unit) ⊕ ((Int × (List Int) × Unit) ⊕ (Int × (List Int) × Unit))) (
  (bif ((decide (i_31 ≤ j_33)) == true) then ((idxN (data_34).length a_2).bind fun k35 =>
  ((atO data_34 k35 fun e36 => some e36)).bind fun y37 =>
  (idxN (data_34).length j_33).bind fun k38 =>
  ((atO data_34 k38 fun e39 => some e39)).bind fun y40 =>
  (e_rcm_grow_1q_q0 n_ (y37, y40, cmp_5.1, ())).bind fun (r41, _) =>
  (bif (decide (r41 < ((0) : Int))) then (
  some (.inl (data_34, ()))) else (
  some (.inr (.inr (j_33, data_34, ())))))) else (some (.inr (.inr (j_33, data_34, ())))))) fun q => match q with
  | .inl (data_42, _) => (
  some (.inl ((IntKind.i64.wrap (j_33 - ((1) : Int))), data_42, ())))
  | .inr r => some r) n_ (j_19, data_32, ())).bind fun (j_43, data_44, _) =>
  (bif (decide (i_31 > j_43)) then (
  some (.inr (i_31, data_44, ()))) else (
  (idxN (data_44).length j_43).bind fun k45 =>
  ((atO data_44 k45 fun e46 => some e46)).bind fun y47 =>
  (idxN (data_44).length i_31).bind fun k48 =>
  ((atO data_44 k48 fun e49 => some e49)).bind fun y50 =>
  (idxN (data_44).length i_31).bind fun k51 =>
  ((atO data_44 k51 fun _ => some ((data_44).set k51 y47))).bind fun z53 =>
  (idxN (z53).length j_43).bind fun k54 =>
  ((atO z53 k54 fun _ => some ((z53).set k54 y50))).bind fun z56 =>
  some (.inl ((IntKind.i64.wrap (i_31 + ((1) : Int))), (IntKind.i64.wrap (j_43 - ((1) : Int))), z56, ()))))) n_ ((IntKind.i64.wrap (a_2 + ((1) : Int))), (IntKind.i64.wrap (b_3 - ((1) : Int))), z17, ())).bind fun (i_57, data_58, _) =>
  some (data_58, i_57, ())
set_option maxHeartbeats 4000000 in
theorem le_slices_partitionEqualCmpFunc_int_rcm (n_ : Nat) (a : ((List Int) × Int × Int × Int × ((Option ((List (List Int)) × Unit)) × Unit) × Unit)) : Le (e_slices_partitionEqualCmpFunc_int_rcm n_ a) (d_slices_partitionEqualCmpFunc_int_rcm a) := by
  unfold e_slices_partitionEqualCmpFunc_int_rcm d_slices_partitionEqualCmpFunc_int_rcm
  repeat' (first | with_reducible exact Le.refl _ | with_reducible exact le_rcm_grow_1q_q0 _ _ | (with_reducible refine Le.bind ?_ (fun y => ?_)) | (with_reducible refine Le.bif ?_ ?_) | (with_reducible refine Le.loop (fun s => ?_) _ _) | (with_reducible refine Le.atO (fun e => ?_)) | split)
noncomputable def e_slices_partitionCmpFunc_int_rcm (n_ : Nat) : ((List Int) × Int × Int × Int × ((Option ((List (List Int)) × Unit)) × Unit) × Unit) → Option ((List Int) × Int × Bool × Unit) := fun (data_1, a_2, b_3, pivot_4, cmp_5, _) =>
  (idxN (data_1).length pivot_4).bind fun k6 =>
  ((atO data_1 k6 fun e7 => some e7)).bind fun y8 =>
  (idxN (data_1).length a_2).bind fun k9 =>
  ((atO data_1 k9 fun e10 => some e10)).bind fun y11 =>
  (idxN (data_1).length a_2).bind fun k12 =>
  ((atO data_1 k12 fun _ => some ((data_1).set k12 y8))).bind fun z14 =>
  (idxN (z14).length pivot_4).bind fun k15 =>
  ((atO z14 k15 fun _ => some ((z14).set k15 y11))).bind fun z17 =>
  (loopN (σ := (Int × (List Int) × Unit)) (ρ := (Int × (List Int) × Unit)) (fun (i_18, data_19, _) =>
  Option.bind (α := ((List Int) × Unit) ⊕ ((Int × (List Int) × Unit) ⊕ (Int × (List Int) × Unit))) (
  (bif ((decide (i_18 ≤ (IntKind.i64.wrap (b_3 - ((1) : Int))))) == true) then ((idxN (data_19).length i_18).bind fun k20 =>
  ((atO data_19 k20 fun e21 => some e21)).bind fun y22 =>
  (idxN (data_19).length a_2).bind fun k23 =>
  ((atO data_19 k23 fun e24 => some e24)).bind fun y25 =>
  (e_rcm_grow_1q_q0 n_ (y22, y25, cmp_5.1, ())).bind fun (r26, _) =>
  (bif (decide (r26 < ((0) : Int))) then (
  some (.inl (data_19, ()))) else (
  some (.inr (.inr (i_18, data_19, ())))))) else (some (.inr (.inr (i_18, data_19, ())))))) fun q => match q with
  | .inl (data_27, _) => (
  some (.inl ((IntKind.i64.wrap (i_18 + ((1) : Int))), data_27, ())))
  | .inr r => some r) n_ ((IntKind.i64.wrap (a_2 + ((1) : Int))), z17, ())).bind fun (i_28, data_29, _) =>
  (loopN (σ := (Int × (List Int) × Unit)) (ρ := (Int × (List Int) × Unit)) (fun (j_30, data_31, _) =>
  Option.bind (α := ((List Int) × Unit) ⊕ ((Int × (List Int) × Unit) ⊕ (Int × (List Int) × Unit))) (
  (bif ((decide (i_28 ≤ j_30)) == true) then ((idxN (data_31).length j_30).bind fun k32 =>
  ((atO data_31 k32 fun e33 => some e33)).bind fun y34 =>
  (idxN (data_31).length a_2).bind fun k35 =>
  ((atO data_31 k35 fun e36 => some e36)).bind fun y37 =>
  (e_rcm_grow_1q_q0 n_ (y34, y37, cmp_5.1, ())).bind fun (r38, _) =>
  (bif (!(decide (r38 < ((0) : Int)))) then (
  some (.inl (data_31, ()))) else (
  some (.inr (.inr (j_30, data_31, ())))))) else (some (.inr (.inr (j_30, data_31, ())))))) fun q => match q with
  | .inl (data_39, _) => (
  some (.inl ((IntKind.i64.wrap (j_30 - ((1) : Int))), data_39, ())))
  | .inr r => some r) n_ ((IntKind.i64.wrap (b_3 - ((1) : Int))), data_29, ())).bind fun (j_40, data_41, _) =>
  (bif (decide (i_28 > j_40)) then (
  (idxN (data_41).length a_2).bind fun k42 =>
  ((atO data_41 k42 fun e43 => some e43)).bind fun y44 =>
  (idxN (data_41).length j_40).bind fun k45 =>
  ((atO data_41 k45 fun e46 => some e46)).bind fun y47 =>
  (idxN (data_41).length j_40).bind fun k48 =>
  ((atO data_41 k48 fun _ => some ((data_41).set k48 y44))).bind fun z50 =>
  (idxN (z50).length a_2).bind fun k51 =>
  ((atO z50 k51 fun _ => some ((z50).set k51 y47))).bind fun z53 =>
  some (z53, j_40, true, ())) else (
  (idxN (data_41).length j_40).bind fun k54 =>
  ((atO data_41 k54 fun e55 => some e55)).bind fun y56 =>
  (idxN (data_41).length i_28).bind fun k57 =>
  ((atO data_41 k57 fun e58 => some e58)).bind fun y59 =>
  (idxN (data_41).length i_28).bind fun k60 =>
  ((atO data_41 k60 fun _ => some ((data_41).set k60 y56))).bind fun z62 =>
  (idxN (z62).length j_40).bind fun k63 =>
  ((atO z62 k63 fun _ => some ((z62).set k63 y59))).bind fun z65 =>
  (loopN (σ := (Int × Int × (List Int) × Unit)) (ρ := (Int × (List Int) × Unit)) (fun (i_66, j_67, data_68, _) =>
  (loopN (σ := (Int × (List Int) × Unit)) (ρ := (Int × (List Int) × Unit)) (fun (i_69, data_70, _) =>
  Option.bind (α := ((List Int) × Unit) ⊕ ((Int × (List Int) × Unit) ⊕ (Int × (List Int) × Unit))) (
  (bif ((decide (i_69 ≤ j_67)) == true) then ((idxN (data_70).length i_69).bind fun k71 =>
  ((atO data_70 k71 fun e72 => some e72)).bind fun y73 =>
  (idxN (data_70).length a_2).bind fun k74 =>
  ((atO data_70 k74 fun e75 => some e75)).bind fun y76 =>
  (e_rcm_grow_1q_q0 n_ (y73, y76, cmp_5.1, ())).bind fun (r77, _) =>
  (bif (decide (r77 < ((0) : Int))) then (
  some (.inl (data_70, ()))) else (
  some (.inr (.inr (i_69, data_70, ())))))) else (some (.inr (.inr (i_69, data_70, ())))))) fun q => match q with
  | .inl (data_78, _) => (
  some (.inl ((IntKind.i64.wrap (i_69 + ((1) : Int))), data_78, ())))
  | .inr r => some r) n_ (i_66, data_68, ())).bind fun (i_79, data_80, _) =>
  (loopN (σ := (Int × (List Int) × Unit)) (ρ := (Int × (List Int) × Unit)) (fun (j_81, data_82, _) =>
  Option.bind (α := ((List Int) × Unit) ⊕ ((Int × (List Int) × Unit) ⊕ (Int × (List Int) × Unit))) (
  (bif ((decide (i_79 ≤ j_81)) == true) then ((idxN (data_82).length j_81).bind fun k83 =>
  ((atO data_82 k83 fun e84 => some e84)).bind fun y85 =>
  (idxN (data_82).length a_2).bind fun k86 =>
  ((atO data_82 k86 fun e87 => some e87)).bind fun y88 =>
  (e_rcm_grow_1q_q0 n_ (y85, y88, cmp_5.1, ())).bind fun (r89, _) =>
  (bif (!(decide (r89 < ((0) : Int)))) then (
  some (.inl (data_82, ()))) else (
  some (.inr (.inr (j_81, data_82, ())))))) else (some (.inr (.inr (j_81, data_82, ())))))) fun q => match q with
  | .inl (data_90, _) => (
  some (.inl ((IntKind.i64.wrap (j_81 - ((1) : Int))), data_90, ())))
  | .inr r => some r) n_ (j_67, data_80, ())).bind fun (j_91, data_92, _) =>
  (bif (decide (i_79 > j_91)) then (
  some (.inr (j_91, data_92, ()))) else (
  (idxN (data_92).length j_91).bind fun k93 =>
  ((atO data_92 k93 fun e94 => some e94)).bind fun y95 =>
  (idxN (data_92).length i_79).bind fun k96 =>
  ((atO data_92 k96 fun e97 => some e97)).bind fun y98 =>
  (idxN (data_92).length i_79).bind fun k99 =>
  ((atO data_92 k99 fun _ => some ((data_92).set k99 y95))).bind fun z101 =>
  (idxN (z101).length j_91).bind fun k102 =>
  ((atO z101 k102 fun _ => some ((z101).set k102 y98))).bind fun z104 =>
  some (.inl ((IntKind.i64.wrap (i_79 + ((1) : Int))), (IntKind.i64.wrap (j_91 - ((1) : Int))), z104, ()))))) n_ ((IntKind.i64.wrap (i_28 + ((1) : Int))), (IntKind.i64.wrap (j_40 - ((1) : Int))), z65, ())).bind fun (j_105, data_106, _) =>
  (idxN (data_106).length a_2).bind fun k107 =>
  ((atO data_106 k107 fun e108 => some e108)).bind fun y109 =>
  (idxN (data_106).length j_105).bind fun k110 =>
  ((atO data_106 k110 fun e111 => some e111)).bind fun y112 =>
  (idxN (data_106).length j_105).bind fun k113 =>
  ((atO data_106 k113 fun _ => some ((data_106).set k113 y109))).bind fun z115 =>
  (idxN (z115).length a_2).bind fun k116 =>
  ((atO z115 k116 fun _ => some ((z115).set k116 y112))).bind fun z118 =>
  some (z118, j_105, false, ())))
set_option maxHeartbeats 4000000 in
theorem le_slices_partitionCmpFunc_int_rcm (n_ : Nat) (a : ((List Int) × Int × Int × Int × ((Option ((List (List Int)) × Unit)) × Unit) × Unit)) : Le (e_slices_partitionCmpFunc_int_rcm n_ a) (d_slices_partitionCmpFunc_int_rcm a) := by
  unfold e_slices_partitionCmpFunc_int_rcm d_slices_partitionCmpFunc_int_rcm
  repeat' (first | with_reducible exact Le.refl _ | with_reducible exact le_rcm_grow_1q_q0 _ _ | (with_reducible refine Le.bind ?_ (fun y => ?_)) | (with_reducible refine Le.bif ?_ ?_) | (with_reducible refine Le.loop (fun s => ?_) _ _) | (with_reducible refine Le.atO (fun e => ?_)) | split)
noncomputable def e_slices_pdqsortCmpFunc_int_rcmq_s (n_ : Nat) (f_ : ((List Int) × Int × Int × Int × ((Option ((List (List Int)) × Unit)) × Unit) × Unit) → Option ((List Int) × Unit)) : ((List Int) × Int × Int × Int × ((Option ((List (List Int)) × Unit)) × Unit) × Unit) → Option ((List Int) × Unit) := fun (data_1, a_2, b_3, limit_4, cmp_5, _) =>
  (loopN (σ := (Int × Int × Int × Bool × Bool × (List Int) × Unit)) (ρ := ((List Int) × Unit)) (fun (a_6, b_7, limit_8, wasBalanced_9, wasPartitioned_10, data_11, _) =>
  (bif (decide ((IntKind.i64.wrap (b_7 - a_6)) ≤ ((12) : Int))) then (
  (e_slices_insertionSortCmpFunc_int_rcm n_ (data_11, a_6, b_7, (cmp_5.1, ()), ())).bind fun (m12, _) =>
  some (.inr (m12, ()))) else (
  (bif (limit_8 == ((0) : Int)) then (
  (e_slices_heapSortCmpFunc_int_rcm n_ (data_11, a_6, b_7, (cmp_5.1, ()), ())).bind fun (m13, _) =>
  some (.inr (m13, ()))) else (
  Option.bind (α := (Int × (List Int) × Unit)) (
  (bif (!wasBalanced_9) then (
  (e_slices_breakPatternsCmpFunc_int_rcm n_ (data_11, a_6, b_7, (cmp_5.1, ()), ())).bind fun (m14, _) =>
  some ((IntKind.i64.wrap (limit_8 - ((1) : Int))), m14, ())) else (
  some (limit_8, data_11, ())))) fun (limit_15, data_16, _) =>
  (e_slices_choosePivotCmpFunc_int_rcm n_ (data_16, a_6, b_7, (cmp_5.1, ()), ())).bind fun (r17, r18, _) =>
  Option.bind (α := (Int × Int × (List Int) × Unit)) (
  (bif (r18 == ((2) : Int)) then (
  (e_slices_reverseRangeCmpFunc_int_rcm n_ (data_16, a_6, b_7, (cmp_5.1, ()), ())).bind fun (m19, _) =>
  some ((IntKind.i64.wrap ((IntKind.i64.wrap (b_7 - ((1) : Int))) - (IntKind.i64.wrap (r17 - a_6)))), ((1) : Int), m19, ())) else (
  some (r17, r18, data_16, ())))) fun (pivot_20, hint_21, data_22, _) =>
  Option.bind (α := ((List Int) × Unit) ⊕ ((Int × Int × Int × Bool × Bool × (List Int) × Unit) ⊕ ((List Int) × Unit))) (
  Option.bind (α := (Bool × (List Int) × Unit)) (
  (bif (wasBalanced_9 == true) then ((bif (wasPartitioned_10 == true) then (some ((hint_21 == ((1) : Int)), data_22, ())) else (some (false, data_22, ())))) else (some (false, data_22, ())))) fun (s_23, data_24, _) =>
  (bif s_23 then (
  (e_slices_partialInsertionSortCmpFunc_int_rcm n_ (data_24, a_6, b_7, (cmp_5.1, ()), ())).bind fun (m25, r26, _) =>
  (bif r26 then (
  some (.inr (.inr (m25, ())))) else (
  some (.inl (m25, ()))))) else (
  some (.inl (data_24, ()))))) fun q => match q with
  | .inl (data_27, _) => (
  Option.bind (α := (Int × (List Int) × Unit) ⊕ ((Int × Int × Int × Bool × Bool × (List Int) × Unit) ⊕ ((List Int) × Unit))) (
  Option.bind (α := (Bool × (List Int) × Unit)) (
  (bif ((decide (a_6 > ((0) : Int))) == true) then ((idxN (data_27).length (IntKind.i64.wrap (a_6 - ((1) : Int)))).bind fun k28 =>
  ((atO data_27 k28 fun e29 => some e29)).bind fun y30 =>
  (idxN (data_27).length pivot_20).bind fun k31 =>
  ((atO data_27 k31 fun e32 => some e32)).bind fun y33 =>
  (e_rcm_grow_1q_q0 n_ (y30, y33, cmp_5.1, ())).bind fun (r34, _) =>
  some ((!(decide (r34 < ((0) : Int)))), data_27, ())) else (some (false, data_27, ())))) fun (s_35, data_36, _) =>
  (bif s_35 then (
  (e_slices_partitionEqualCmpFunc_int_rcm n_ (data_36, a_6, b_7, pivot_20, (cmp_5.1, ()), ())).bind fun (m37, r38, _) =>
  some (.inr (.inl (r38, b_7, limit_15, wasBalanced_9, wasPartitioned_10, m37, ())))) else (
  some (.inl (a_6, data_36, ()))))) fun q => match q with
  | .inl (a_39, data_40, _) => (
  (e_slices_partitionCmpFunc_int_rcm n_ (data_40, a_39, b_7, pivot_20, (cmp_5.1, ()), ())).bind fun (m41, r42, r43, _) =>
  (quoO IntKind.i64 (IntKind.i64.wrap (b_7 - a_6)) ((8) : Int)).bind fun y44 =>
  (bif (decide ((IntKind.i64.wrap (r42 - a_39)) < (IntKind.i64.wrap (b_7 - r42)))) then (
  (f_ (m41, a_39, r42, limit_15, (cmp_5.1, ()), ())).bind fun (m45, _) =>
  some (.inl ((IntKind.i64.wrap (r42 + ((1) : Int))), b_7, limit_15, (decide ((IntKind.i64.wrap (r42 - a_39)) ≥ y44)), r43, m45, ()))) else (
  (f_ (m41, (IntKind.i64.wrap (r42 + ((1) : Int))), b_7, limit_15, (cmp_5.1, ()), ())).bind fun (m46, _) =>
  some (.inl (a_39, r42, limit_15, (decide ((IntKind.i64.wrap (b_7 - r42)) ≥ y44)), r43, m46, ())))))
  | .inr r => some r)
  | .inr r => some r))))) n_ (a_2, b_3, limit_4, true, true, data_1, ())).bind some
set_option maxHeartbeats 4000000 in
theorem le_slices_pdqsortCmpFunc_int_rcmq_s (n_ : Nat) (f_ fb_ : ((List Int) × Int × Int × Int × ((Option ((List (List Int)) × Unit)) × Unit) × Unit) → Option ((List Int) × Unit)) (h_ : ∀ a, Le (f_ a) (fb_ a)) (a : ((List Int) × Int × Int × Int × ((Option ((List (List Int)) × Unit)) × Unit) × Unit)) : Le (e_slices_pdqsortCmpFunc_int_rcmq_s n_ f_ a) (r_slices_pdqsortCmpFunc_int_rcmq_s fb_ a) := by
  unfold e_slices_pdqsortCmpFunc_int_rcmq_s r_slices_pdqsortCmpFunc_int_rcmq_s
  repeat' (first | with_reducible exact Le.refl _ | with_reducible exact le_rcm_grow_1q_q0 _ _ | with_reducible exact le_slices_insertionSortCmpFunc_int_rcm _ _ | with_reducible exact le_slices_heapSortCmpFunc_int_rcm _ _ | with_reducible exact le_slices_breakPatternsCmpFunc_int_rcm _ _ | with_reducible exact le_slices_choosePivotCmpFunc_int_rcm _ _ | with_reducible exact le_slices_reverseRangeCmpFunc_int_rcm _ _ | with_reducible exact le_slices_partialInsertionSortCmpFunc_int_rcm _ _ | with_reducible exact le_slices_partitionEqualCmpFunc_int_rcm _ _ | with_reducible exact le_slices_partitionCmpFunc_int_rcm _ _ | with_reducible exact h_ _ | (with_reducible refine Le.bind ?_ (fun y => ?_)) | (with_reducible refine Le.bif ?_ ?_) | (with_reducible refine Le.loop (fun s => ?_) _ _) | (with_reducible refine Le.atO (fun e => ?_)) | split)
noncomputable def e_slices_pdqsortCmpFunc_int_rcm (n_ : Nat) : ((List Int) × Int × Int × Int × ((Option ((List (List Int)) × Unit)) × Unit) × Unit) → Option ((List Int) × Unit) := deep (e_slices_pdqsortCmpFunc_int_rcmq_s n_) n_
theorem le_slices_pdqsortCmpFunc_int_rcm (n_ : Nat) (a : ((List Int) × Int × Int × Int × ((Option ((List (List Int)) × Unit)) × Unit) × Unit)) : Le (e_slices_pdqsortCmpFunc_int_rcm n_ a) (d_slices_pdqsortCmpFunc_int_rcm a) := Le.deep (le_slices_pdqsortCmpFunc_int_rcmq_s n_) r_slices_pdqsortCmpFunc_int_rcmq_mono n_ a
noncomputable def e_slices_SortFunc_int_int_rcm (n_ : Nat) : ((List Int) × ((Option ((List (List Int)) × Unit)) × Unit) × Unit) → Option ((List Int) × Unit) := fun (x_1, cmp_2, _) =>
  (e_math_bits_Len n_ ((IntKind.u64.wrap (((x_1).length : Nat) : Int)), ())).bind fun (r3, _) =>
  (e_slices_pdqsortCmpFunc_int_rcm n_ (x_1, ((0) : Int), (((x_1).length : Nat) : Int), r3, (cmp_2.1, ()), ())).bind fun (m4, _) =>
  some (m4, ())
set_option maxHeartbeats 4000000 in
theorem le_slices_SortFunc_int_int_rcm (n_ : Nat) (a : ((List Int) × ((Option ((List (List Int)) × Unit)) × Unit) × Unit)) : Le (e_slices_SortFunc_int_int_rcm n_ a) (d_slices_SortFunc_int_int_rcm a) := by
  unfold e_slices_SortFunc_int_int_rcm d_slices_SortFunc_int_int_rcm
  repeat' (first | with_reducible exact Le.refl _ | with_reducible exact le_slices_pdqsortCmpFunc_int_rcm _ _ | with_reducible exact le_math_bits_Len _ _ | (with_reducible refine Le.bind ?_ (fun y => ?_)) | (with_reducible refine Le.bif ?_ ?_) | (with_reducible refine Le.loop (fun s => ?_) _ _) | (with_reducible refine Le.atO (fun e => ?_)) | split)
noncomputable def e_rcm_grow (n_ : Nat) : (((List (List Int)) × Unit) × Int × (List Int) × (List Bool) × Unit) → Option ((List Bool) × (List Int) × Unit) := fun (g_1, start_2, order_3, placed_4, _) =>
  (limO ((order_3).length + ([start_2]).length)).bind fun _ =>
  (idxN (placed_4).length start_2).bind fun k15 =>
  ((atO placed_4 k15 fun _ => some ((placed_4).set k15 true))).bind fun z17 =>
  (loopN (σ := (Int × (List Int) × (List Bool) × Unit)) (ρ := ((List Int) × (List Bool) × Unit)) (fun (at_18, order_19, placed_20, _) =>
  (bif (decide (at_18 < (((order_19).length : Nat) : Int))) then (
  (idxN (order_19).length at_18).bind fun k21 =>
  ((atO order_19 k21 fun e22 => some e22)).bind fun y23 =>
  (getI g_1.1 y23).bind fun y24 =>
  (loopN (σ := (Int × (List Int) × (List Bool) × (List Int) × Unit)) (ρ := ((List Int) × (List Bool) × (List Int) × Unit)) (fun (s_25, order_26, placed_27, next_28, _) =>
  (bif (decide (s_25 < (((y24).length : Nat) : Int))) then (
  Option.bind (α := ((List Int) × (List Bool) × (List Int) × Unit)) (
  (getI y24 s_25).bind fun y29 =>
  (idxN (placed_27).length y29).bind fun k30 =>
  ((atO placed_27 k30 fun e31 => some e31)).bind fun y32 =>
  (bif (!y32) then (
  (idxN (placed_27).length y29).bind fun k33 =>
  ((atO placed_27 k33 fun _ => some ((placed_27).set k33 true))).bind fun z35 =>
  (limO ((next_28).length + ([y29]).length)).bind fun _ =>
  some (order_26, z35, (next_28 ++ [y29]), ())) else (
  some (order_26, placed_27, next_28, ())))) fun (order_36, placed_37, next_38, _) =>
  some (.inl ((IntKind.i64.wrap (s_25 + ((1) : Int))), order_36, placed_37, next_38, ()))) else (
  some (.inr (order_26, placed_27, next_28, ()))))) n_ (((0) : Int), order_19, placed_20, [], ())).bind fun (order_39, placed_40, next_41, _) =>
  (e_slices_SortFunc_int_int_rcm n_ (next_41, ((some g_1), ()), ())).bind fun (m42, _) =>
  (limO ((order_39).length + (m42).length)).bind fun _ =>
  some (.inl ((IntKind.i64.wrap (at_18 + ((1) : Int))), (order_39 ++ m42), placed_40, ()))) else (
  some (.inr (order_19, placed_20, ()))))) n_ ((((order_3).length : Nat) : Int), (order_3 ++ [start_2]), z17, ())).bind fun (order_43, placed_44, _) =>
  some (placed_44, order_43, ())
set_option maxHeartbeats 4000000 in
theorem le_rcm_grow (n_ : Nat) (a : (((List (List Int)) × Unit) × Int × (List Int) × (List Bool) × Unit)) : Le (e_rcm_grow n_ a) (d_rcm_grow a) := by
  unfold e_rcm_grow d_rcm_grow
  repeat' (first | with_reducible exact Le.refl _ | with_reducible exact le_slices_SortFunc_int_int_rcm _ _ | (with_reducible refine Le.bind ?_ (fun y => ?_)) | (with_reducible refine Le.bif ?_ ?_) | (with_reducible refine Le.loop (fun s => ?_) _ _) | (with_reducible refine Le.atO (fun e => ?_)) | split)
noncomputable def e_slices_Reverse_int_int (n_ : Nat) : ((List Int) × Unit) → Option ((List Int) × Unit) := fun (s_1, _) =>
  (loopN (σ := (Int × Int × (List Int) × Unit)) (ρ := ((List Int) × Unit)) (fun (i_2, j_3, s_4, _) =>
  (bif (decide (i_2 < j_3)) then (
  (idxN (s_4).length j_3).bind fun k5 =>
  ((atO s_4 k5 fun e6 => some e6)).bind fun y7 =>
  (idxN (s_4).length i_2).bind fun k8 =>
  ((atO s_4 k8 fun e9 => some e9)).bind fun y10 =>
  (idxN (s_4).length i_2).bind fun k11 =>
  ((atO s_4 k11 fun _ => some ((s_4).set k11 y7))).bind fun z13 =>
  (idxN (z13).length j_3).bind fun k14 =>
  ((atO z13 k14 fun _ => some ((z13).set k14 y10))).bind fun z16 =>
  some (.inl ((IntKind.i64.wrap (i_2 + ((1) : Int))), (IntKind.i64.wrap (j_3 - ((1) : Int))), z16, ()))) else (
  some (.inr (s_4, ()))))) n_ (((0) : Int), (IntKind.i64.wrap ((((s_1).length : Nat) : Int) - ((1) : Int))), s_1, ())).bind fun (s_17, _) =>
  some (s_17, ())
set_option maxHeartbeats 4000000 in
theorem le_slices_Reverse_int_int (n_ : Nat) (a : ((List Int) × Unit)) : Le (e_slices_Reverse_int_int n_ a) (d_slices_Reverse_int_int a) := by
  unfold e_slices_Reverse_int_int d_slices_Reverse_int_int
  repeat' (first | with_reducible exact Le.refl _  | (with_reducible refine Le.bind ?_ (fun y => ?_)) | (with_reducible refine Le.bif ?_ ?_) | (with_reducible refine Le.loop (fun s => ?_) _ _) | (with_reducible refine Le.atO (fun e => ?_)) | split)
noncomputable def e_rcm_Order (n_ : Nat) : (((List (List Int)) × Unit) × Unit) → Option ((List Int) × Int × Unit) := fun (g_1, _) =>
  (e_graph_Check n_ (g_1, ())).bind fun (r21, _) =>
  (bif (r21 != ((0) : Int)) then (
  some ([], r21, ())) else (
  (madeO (((g_1.1).length : Nat) : Int) (((g_1.1).length : Nat) : Int)).bind fun n22 =>
  (e_graph_Components n_ (g_1, ())).bind fun (r23, _) =>
  (loopN (σ := (Int × (List Int) × (List Bool) × (List (List Int)) × Unit)) (ρ := ((List Int) × Unit)) (fun (s_24, order_25, placed_26, s_27, _) =>
  (bif (decide (s_24 < (((r23).length : Nat) : Int))) then (
  (idxN (s_27).length s_24).bind fun k28 =>
  ((atO s_27 k28 fun e29 => some e29)).bind fun y30 =>
  (getI y30 ((0) : Int)).bind fun y31 =>
  (e_graph_Peripheral n_ (g_1, y31, ())).bind fun (r32, _) =>
  (e_rcm_grow n_ (g_1, r32, order_25, placed_26, ())).bind fun (m33, r34, _) =>
  some (.inl ((IntKind.i64.wrap (s_24 + ((1) : Int))), r34, m33, s_27, ()))) else (
  some (.inr (order_25, ()))))) n_ (((0) : Int), [], (List.replicate n22 false), r23, ())).bind fun (order_35, _) =>
  (e_slices_Reverse_int_int n_ (order_35, ())).bind fun (m36, _) =>
  some (m36, ((0) : Int), ())))
set_option maxHeartbeats 4000000 in
theorem le_rcm_Order (n_ : Nat) (a : (((List (List Int)) × Unit) × Unit)) : Le (e_rcm_Order n_ a) (d_rcm_Order a) := by
  unfold e_rcm_Order d_rcm_Order
  repeat' (first | with_reducible exact Le.refl _ | with_reducible exact le_graph_Components _ _ | with_reducible exact le_graph_Peripheral _ _ | with_reducible exact le_graph_Check _ _ | with_reducible exact le_rcm_grow _ _ | with_reducible exact le_slices_Reverse_int_int _ _ | (with_reducible refine Le.bind ?_ (fun y => ?_)) | (with_reducible refine Le.bif ?_ ?_) | (with_reducible refine Le.loop (fun s => ?_) _ _) | (with_reducible refine Le.atO (fun e => ?_)) | split)
noncomputable def e_graph_twice (n_ : Nat) : List Int × Unit → Option (Bool × Unit) := fun a => (twSem (fun l => (e_slices_Sort_int_int n_ (l, ())).map fun r => r.1) a.1).map fun b => (b, ())
theorem le_graph_twice (n_ : Nat) (a : List Int × Unit) : Le (e_graph_twice n_ a) (d_graph_twice a) := twSem_le (fun l => le_slices_Sort_int_int n_ (l, ())) a
noncomputable def e_graph_Permuted_1q_q0 (n_ : Nat) : (Int × (Option ((List (List Int)) × Unit)) × Unit) → Option (Bool × Unit) := fun (v_1, p_2, _) =>
  (p_2).bind fun y3 =>
  (e_graph_vertex n_ (y3, v_1, ())).bind fun (r4, _) =>
  some ((!r4), ())
set_option maxHeartbeats 4000000 in
theorem le_graph_Permuted_1q_q0 (n_ : Nat) (a : (Int × (Option ((List (List Int)) × Unit)) × Unit)) : Le (e_graph_Permuted_1q_q0 n_ a) (d_graph_Permuted_1q_q0 a) := by
  unfold e_graph_Permuted_1q_q0 d_graph_Permuted_1q_q0
  repeat' (first | with_reducible exact Le.refl _ | with_reducible exact le_graph_vertex _ _ | (with_reducible refine Le.bind ?_ (fun y => ?_)) | (with_reducible refine Le.bif ?_ ?_) | (with_reducible refine Le.loop (fun s => ?_) _ _) | (with_reducible refine Le.atO (fun e => ?_)) | split)
noncomputable def e_slices_IndexFunc_int_int_q0 (n_ : Nat) : ((List Int) × ((Option ((List (List Int)) × Unit)) × Unit) × Unit) → Option (Int × Unit) := fun (s_1, f_2, _) =>
  (loopN (σ := (Int × Unit)) (ρ := (Unit ⊕ (Int × Unit))) (fun (s_3, _) =>
  (bif (decide (s_3 < (((s_1).length : Nat) : Int))) then (
  (getI s_1 s_3).bind fun y4 =>
  (e_graph_Permuted_1q_q0 n_ (y4, f_2.1, ())).bind fun (r5, _) =>
  (bif r5 then (
  some (.inr (.inr (s_3, ())))) else (
  some (.inl ((IntKind.i64.wrap (s_3 + ((1) : Int))), ()))))) else (
  some (.inr (.inl ()))))) n_ (((0) : Int), ())).bind fun q => match q with
  | .inl _ => (
  some ((-1 : Int), ()))
  | .inr r => some r
set_option maxHeartbeats 4000000 in
theorem le_slices_IndexFunc_int_int_q0 (n_ : Nat) (a : ((List Int) × ((Option ((List (List Int)) × Unit)) × Unit) × Unit)) : Le (e_slices_IndexFunc_int_int_q0 n_ a) (d_slices_IndexFunc_int_int_q0 a) := by
  unfold e_slices_IndexFunc_int_int_q0 d_slices_IndexFunc_int_int_q0
  repeat' (first | with_reducible exact Le.refl _ | with_reducible exact le_graph_Permuted_1q_q0 _ _ | (with_reducible refine Le.bind ?_ (fun y => ?_)) | (with_reducible refine Le.bif ?_ ?_) | (with_reducible refine Le.loop (fun s => ?_) _ _) | (with_reducible refine Le.atO (fun e => ?_)) | split)
noncomputable def e_slices_ContainsFunc_int_int_q0 (n_ : Nat) : ((List Int) × ((Option ((List (List Int)) × Unit)) × Unit) × Unit) → Option (Bool × Unit) := fun (s_1, f_2, _) =>
  (e_slices_IndexFunc_int_int_q0 n_ (s_1, (f_2.1, ()), ())).bind fun (r3, _) =>
  some ((decide (r3 ≥ ((0) : Int))), ())
set_option maxHeartbeats 4000000 in
theorem le_slices_ContainsFunc_int_int_q0 (n_ : Nat) (a : ((List Int) × ((Option ((List (List Int)) × Unit)) × Unit) × Unit)) : Le (e_slices_ContainsFunc_int_int_q0 n_ a) (d_slices_ContainsFunc_int_int_q0 a) := by
  unfold e_slices_ContainsFunc_int_int_q0 d_slices_ContainsFunc_int_int_q0
  repeat' (first | with_reducible exact Le.refl _ | with_reducible exact le_slices_IndexFunc_int_int_q0 _ _ | (with_reducible refine Le.bind ?_ (fun y => ?_)) | (with_reducible refine Le.bif ?_ ?_) | (with_reducible refine Le.loop (fun s => ?_) _ _) | (with_reducible refine Le.atO (fun e => ?_)) | split)
noncomputable def e_graph_Permuted (n_ : Nat) : (((List (List Int)) × Unit) × (List Int) × Unit) → Option (Int × Unit) := fun (g_1, order_2, _) =>
  (e_graph_Check n_ (g_1, ())).bind fun (r3, _) =>
  (bif (r3 != ((0) : Int)) then (
  some (r3, ())) else (
  (bif ((((order_2).length : Nat) : Int) != (((g_1.1).length : Nat) : Int)) then (
  some (((2) : Int), ())) else (
  (e_slices_ContainsFunc_int_int_q0 n_ (order_2, ((some g_1), ()), ())).bind fun (r4, _) =>
  (bif (r4 == false) then ((e_graph_twice n_ (order_2, ())).bind fun (r5, _) =>
  (bif r5 then (
  some (((90) : Int), ())) else (
  some (((0) : Int), ())))) else (some (((90) : Int), ())))))))
set_option maxHeartbeats 4000000 in
theorem le_graph_Permuted (n_ : Nat) (a : (((List (List Int)) × Unit) × (List Int) × Unit)) : Le (e_graph_Permuted n_ a) (d_graph_Permuted a) := by
  unfold e_graph_Permuted d_graph_Permuted
  repeat' (first | with_reducible exact Le.refl _ | with_reducible exact le_slices_ContainsFunc_int_int_q0 _ _ | with_reducible exact le_graph_Check _ _ | with_reducible exact le_graph_twice _ _ | (with_reducible refine Le.bind ?_ (fun y => ?_)) | (with_reducible refine Le.bif ?_ ?_) | (with_reducible refine Le.loop (fun s => ?_) _ _) | (with_reducible refine Le.atO (fun e => ?_)) | split)
noncomputable def e_rcm_positions (n_ : Nat) : ((List Int) × Unit) → Option ((List Int) × Unit) := fun (order_1, _) =>
  (madeO (((order_1).length : Nat) : Int) (((order_1).length : Nat) : Int)).bind fun n2 =>
  (loopN (σ := (Int × (List Int) × Unit)) (ρ := ((List Int) × Unit)) (fun (s_3, out_4, _) =>
  (bif (decide (s_3 < (((order_1).length : Nat) : Int))) then (
  (getI order_1 s_3).bind fun y5 =>
  (idxN (out_4).length y5).bind fun k6 =>
  ((atO out_4 k6 fun _ => some ((out_4).set k6 s_3))).bind fun z8 =>
  some (.inl ((IntKind.i64.wrap (s_3 + ((1) : Int))), z8, ()))) else (
  some (.inr (out_4, ()))))) n_ (((0) : Int), (List.replicate n2 (0 : Int)), ())).bind fun (out_9, _) =>
  some (out_9, ())
set_option maxHeartbeats 4000000 in
theorem le_rcm_positions (n_ : Nat) (a : ((List Int) × Unit)) : Le (e_rcm_positions n_ a) (d_rcm_positions a) := by
  unfold e_rcm_positions d_rcm_positions
  repeat' (first | with_reducible exact Le.refl _  | (with_reducible refine Le.bind ?_ (fun y => ?_)) | (with_reducible refine Le.bif ?_ ?_) | (with_reducible refine Le.loop (fun s => ?_) _ _) | (with_reducible refine Le.atO (fun e => ?_)) | split)
noncomputable def e_rcm_Bandwidth (n_ : Nat) : (((List (List Int)) × Unit) × (List Int) × Unit) → Option (Int × Int × Unit) := fun (g_1, order_2, _) =>
  (e_graph_Permuted n_ (g_1, order_2, ())).bind fun (r3, _) =>
  (bif (r3 != ((0) : Int)) then (
  some (((0) : Int), r3, ())) else (
  (e_rcm_positions n_ (order_2, ())).bind fun (r4, _) =>
  (loopN (σ := (Int × Int × Unit)) (ρ := (Int × Unit)) (fun (width_5, s_6, _) =>
  (bif (decide (s_6 < (((g_1.1).length : Nat) : Int))) then (
  (getI g_1.1 s_6).bind fun y7 =>
  (loopN (σ := (Int × Int × Unit)) (ρ := (Int × Unit)) (fun (width_8, s_9, _) =>
  (bif (decide (s_9 < (((y7).length : Nat) : Int))) then (
  (getI y7 s_9).bind fun y10 =>
  (getI r4 s_6).bind fun y11 =>
  (getI r4 y10).bind fun y12 =>
  some (.inl ((if (IntKind.i64.wrap (y11 - y12)) > width_8 then (IntKind.i64.wrap (y11 - y12)) else width_8), (IntKind.i64.wrap (s_9 + ((1) : Int))), ()))) else (
  some (.inr (width_8, ()))))) n_ (width_5, ((0) : Int), ())).bind fun (width_13, _) =>
  some (.inl (width_13, (IntKind.i64.wrap (s_6 + ((1) : Int))), ()))) else (
  some (.inr (width_5, ()))))) n_ (((0) : Int), ((0) : Int), ())).bind fun (width_14, _) =>
  some (width_14, ((0) : Int), ())))
set_option maxHeartbeats 4000000 in
theorem le_rcm_Bandwidth (n_ : Nat) (a : (((List (List Int)) × Unit) × (List Int) × Unit)) : Le (e_rcm_Bandwidth n_ a) (d_rcm_Bandwidth a) := by
  unfold e_rcm_Bandwidth d_rcm_Bandwidth
  repeat' (first | with_reducible exact Le.refl _ | with_reducible exact le_graph_Permuted _ _ | with_reducible exact le_rcm_positions _ _ | (with_reducible refine Le.bind ?_ (fun y => ?_)) | (with_reducible refine Le.bif ?_ ?_) | (with_reducible refine Le.loop (fun s => ?_) _ _) | (with_reducible refine Le.atO (fun e => ?_)) | split)
noncomputable def e_sparselaw17q_awake (n_ : Nat) : Unit → Option (Bool × Unit) := fun _ =>
  (e_rcm_Order n_ (([[((1) : Int)], [((0) : Int), ((2) : Int)], [((1) : Int)]], ()), ())).bind fun (r1, r2, _) =>
  (e_rcm_Bandwidth n_ (([[((1) : Int)], [((0) : Int), ((2) : Int)], [((1) : Int)]], ()), [((0) : Int), ((2) : Int), ((1) : Int)], ())).bind fun (r3, r4, _) =>
  (bif ((r2 == ((0) : Int)) == true) then ((bif ((r4 == ((0) : Int)) == true) then ((e_sparsekit_Ints n_ (r1, [((2) : Int), ((1) : Int), ((0) : Int)], ())).bind fun (r5, _) =>
  (bif (r5 == true) then (some ((r3 == ((2) : Int)), ())) else (some (false, ())))) else (some (false, ())))) else (some (false, ())))
set_option maxHeartbeats 4000000 in
theorem le_sparselaw17q_awake (n_ : Nat) (a : Unit) : Le (e_sparselaw17q_awake n_ a) (d_sparselaw17q_awake a) := by
  unfold e_sparselaw17q_awake d_sparselaw17q_awake
  repeat' (first | with_reducible exact Le.refl _ | with_reducible exact le_rcm_Order _ _ | with_reducible exact le_rcm_Bandwidth _ _ | with_reducible exact le_sparsekit_Ints _ _ | (with_reducible refine Le.bind ?_ (fun y => ?_)) | (with_reducible refine Le.bif ?_ ?_) | (with_reducible refine Le.loop (fun s => ?_) _ _) | (with_reducible refine Le.atO (fun e => ?_)) | split)
theorem awake17 : d_sparselaw17q_awake () = some (true, ()) := le_sparselaw17q_awake 20 () _ (by decide +kernel)
end Go.Fw
end

section
namespace Go.Fw
set_option linter.unusedSimpArgs false
set_option linter.unusedVariables false
open Go
def posN (o : List Int) (x : Nat) : Nat := o.idxOf (x : Int)
section
variable {o : List Int} {n : Nat} (hp : IsPerm o n)
include hp
theorem IsPerm.mem {x : Nat} (hx : x < n) : (x : Int) ∈ o := by
  apply Classical.byContradiction
  intro hno
  obtain ⟨h1, h2, h3⟩ := hp
  have e : o = natL (o.map Int.toNat) := by
    unfold natL
    rw [List.map_map]
    conv => lhs; rw [← List.map_id o]
    refine List.map_congr_left fun y h => ?_
    have := h2 y h
    simp only [id, Function.comp]
    omega
  have hd : (o.map Int.toNat).Nodup := by
    rw [List.nodup_iff_pairwise_ne, List.pairwise_map]
    refine (List.pairwise_iff_getElem.2 fun i j hi hj hij => ?_)
    have a := h2 _ (List.getElem_mem hi)
    have b := h2 _ (List.getElem_mem hj)
    have := List.pairwise_iff_getElem.1 (List.nodup_iff_pairwise_ne.1 h3) i j hi hj hij
    omega
  have hne : x ∉ o.map Int.toNat := fun h => hno (by rw [e]; exact mem_natL.2 h)
  have := nodup_le (n := n) (List.nodup_cons.2 ⟨hne, hd⟩) (fun y hy => by
    rcases List.mem_cons.1 hy with rfl | hy
    · exact hx
    · obtain ⟨z, hz, rfl⟩ := List.mem_map.1 hy
      have := h2 z hz
      omega)
  rw [List.length_cons, List.length_map] at this
  omega
theorem IsPerm.pos {x : Nat} (hx : x < n) : posN o x < n ∧ ordN o (posN o x) = x := by
  have h := hp.mem hx
  have h1 : posN o x < o.length := List.idxOf_lt_length_iff.2 h
  refine ⟨by rw [← hp.1]; exact h1, ?_⟩
  unfold ordN
  rw [getD_lt h1, show o[posN o x] = (x : Int) from List.getElem_idxOf h1]
  simp
theorem IsPerm.pos_ord {k : Nat} (hk : k < n) : posN o (ordN o k) = k := by
  have h1 := (hp.get hk).2
  obtain ⟨h2, h3⟩ := hp.pos h1
  exact hp.inj h2 hk h3
theorem positions_eq (hn : n ≤ 4000) : d_rcm_positions (o, ()) = some (fT n (fun x => (posN o x : Int)), ()) := by
  have hl := hp.1
  unfold d_rcm_positions
  dsimp only
  rw [hl]
  simp (disch := omega) only [madeO_ok, Option.bind_some, fT_replicate]
  refine bindR (fT n (fun x => (posN o x : Int)), ()) rfl (loop_for n (fun k => (fT n (fun x => if posN o x < k then (posN o x : Int) else 0), ())) 0 rfl ?_ (Nat.zero_le _) ?_ ?_)
  · exact congrArg (fun a => (a, ())) (fT_congr fun x _ => by rw [if_neg (by omega)])
  · intro k _ hk
    obtain ⟨h1, h2⟩ := hp.get hk
    simp (disch := omega) only [cond_dec, if_pos, h1, Option.bind_some, fT_length, idxN_nat, atO_fT, fT_set, wrap_inc]
    refine congrArg (fun a => some (Sum.inl (((k + 1 : Nat) : Int), a, ()))) (fT_congr fun x hx => ?_)
    simp only [upd]
    by_cases c : x = ordN o k
    · rw [if_pos c, c, hp.pos_ord hk, if_pos (by omega)]
    · rw [if_neg c]
      have : posN o x ≠ k := fun e => c (by rw [← e, (hp.pos hx).2])
      by_cases c2 : posN o x < k
      · rw [if_pos c2, if_pos (by omega)]
      · rw [if_neg c2, if_neg (by omega)]
  · simp (disch := omega) only [cond_dec, if_neg]
    exact congrArg (fun a => some (Sum.inr (a, ()))) (fT_congr fun x hx => by rw [if_pos (hp.pos hx).1])
end
def fsK (adj : List (List Int)) (o : List Int) (k j : Nat) : Nat := ((adj.getD (ordN o k) []).take j).foldl (fun m x => if posN o x.toNat < m then posN o x.toNat else m) k
def fsV (adj : List (List Int)) (o : List Int) (k : Nat) : Nat := fsK adj o k (adj.getD (ordN o k) []).length
theorem fsK_succ (adj : List (List Int)) (o : List Int) (k : Nat) {j : Nat} (h : j < (adj.getD (ordN o k) []).length) :
    fsK adj o k (j + 1) = if posN o ((adj.getD (ordN o k) [])[j]).toNat < fsK adj o k j then posN o ((adj.getD (ordN o k) [])[j]).toNat else fsK adj o k j := by
  unfold fsK
  rw [← take_snoc h, List.foldl_append]
  rfl
def hdV (adj : List (List Int)) (o : List Int) (k : Nat) : Nat := k - fsV adj o k
def prK (adj : List (List Int)) (o : List Int) (k : Nat) : Nat := ((List.range k).map (hdV adj o)).sum
def bdK (adj : List (List Int)) (o : List Int) (k : Nat) : Nat := ((List.range k).map (hdV adj o)).foldl max 0
theorem prK_succ (adj : List (List Int)) (o : List Int) (k : Nat) : prK adj o (k + 1) = prK adj o k + hdV adj o k := by
  unfold prK; rw [List.range_succ, List.map_append, List.sum_append]; simp
theorem bdK_succ (adj : List (List Int)) (o : List Int) (k : Nat) : bdK adj o (k + 1) = max (bdK adj o k) (hdV adj o k) := by
  unfold bdK; rw [List.range_succ, List.map_append, List.foldl_append]; rfl
theorem bdK_ge (adj : List (List Int)) (o : List Int) {k j : Nat} (h : j < k) : hdV adj o j ≤ bdK adj o k := by
  induction k with
  | zero => omega
  | succ k ih =>
    rw [bdK_succ]
    rcases Nat.lt_or_ge j k with h1 | h1
    · have := ih h1; omega
    · obtain rfl : j = k := by omega
      omega
theorem bdK_is (adj : List (List Int)) (o : List Int) (k : Nat) : bdK adj o k = 0 ∨ ∃ j, j < k ∧ bdK adj o k = hdV adj o j := by
  induction k with
  | zero => exact .inl rfl
  | succ k ih =>
    rw [bdK_succ]
    rcases Nat.le_total (bdK adj o k) (hdV adj o k) with h | h
    · exact .inr ⟨k, by omega, by omega⟩
    · rcases ih with ih | ⟨j, h1, h2⟩
      · exact .inl (by omega)
      · exact .inr ⟨j, by omega, by omega⟩
theorem hdV_le (adj : List (List Int)) (o : List Int) (k : Nat) : hdV adj o k ≤ k := by unfold hdV; omega
theorem prK_le (adj : List (List Int)) (o : List Int) (k : Nat) : prK adj o k ≤ k * k := by
  induction k with
  | zero => exact Nat.le_refl _
  | succ k ih =>
    rw [prK_succ]
    have := hdV_le adj o k
    have e : (k + 1) * (k + 1) = k * k + 2 * k + 1 := by rw [Nat.add_mul, Nat.mul_add]; omega
    omega
theorem bdK_le (adj : List (List Int)) (o : List Int) (k : Nat) : bdK adj o k ≤ k := by
  rcases bdK_is adj o k with h | ⟨j, h1, h2⟩
  · omega
  · have := hdV_le adj o j; omega
section
variable {adj : List (List Int)} (hV : Valid adj) {o : List Int} (hp : IsPerm o adj.length)
include hV hp
theorem fsV_is {k : Nat} (hk : k < adj.length) : fsV adj o k ≤ k ∧ (∀ w, Nb adj (ordN o k) w → fsV adj o k ≤ posN o w) ∧ (fsV adj o k = k ∨ ∃ w, Nb adj (ordN o k) w ∧ posN o w = fsV adj o k) := by
  have ho := (hp.get hk).2
  have hget : adj.getD (ordN o k) [] = adj[ordN o k] := getD_lt ho []
  have key : ∀ j, j ≤ (adj.getD (ordN o k) []).length → fsK adj o k j ≤ k ∧ (∀ w : Nat, (w : Int) ∈ (adj.getD (ordN o k) []).take j → fsK adj o k j ≤ posN o w) ∧ (fsK adj o k j = k ∨ ∃ w, Nb adj (ordN o k) w ∧ posN o w = fsK adj o k j) := by
    intro j
    induction j with
    | zero => intro _; exact ⟨by simp [fsK], by simp, .inl (by simp [fsK])⟩
    | succ j ih =>
      intro hj
      obtain ⟨i1, i2, i3⟩ := ih (by omega)
      obtain ⟨w, hw, hwn⟩ := nb_get hV ho (j := j) (by rw [← hget]; omega)
      have hw' : (adj.getD (ordN o k) [])[j]'(by omega) = (w : Int) := by simp only [hget]; exact hw
      rw [fsK_succ adj o k (by omega), hw', Int.toNat_natCast]
      have hnb : Nb adj (ordN o k) w := ⟨ho, by rw [← hw]; exact List.getElem_mem _⟩
      have hts := take_mem_succ (show j < (adj.getD (ordN o k) []).length by omega) hw'
      by_cases c : posN o w < fsK adj o k j
      · rw [if_pos c]
        refine ⟨by omega, fun x hx => ?_, .inr ⟨w, hnb, rfl⟩⟩
        rcases (hts x).1 hx with hx | rfl
        · have := i2 x hx; omega
        · omega
      · rw [if_neg c]
        refine ⟨i1, fun x hx => ?_, i3⟩
        rcases (hts x).1 hx with hx | rfl
        · exact i2 x hx
        · omega
  obtain ⟨k1, k2, k3⟩ := key _ (Nat.le_refl _)
  refine ⟨k1, fun w hw => k2 w ?_, k3⟩
  rw [List.take_length, hget]
  exact hw.2
theorem band_uniq {b : Nat} (h1 : ∀ v w, Nb adj v w → posN o v ≤ posN o w + b) (h2 : b = 0 ∨ ∃ v w, Nb adj v w ∧ posN o v = posN o w + b) : b = bdK adj o adj.length := by
  have a1 : ∀ v w, Nb adj v w → posN o v ≤ posN o w + bdK adj o adj.length := by
    intro v w h
    obtain ⟨v1, w1⟩ := h.lt hV
    obtain ⟨p1, p2⟩ := hp.pos v1
    obtain ⟨f1, f2, f3⟩ := fsV_is hV hp p1
    have := bdK_ge adj o p1
    have := f2 w (by rw [p2]; exact h)
    unfold hdV at *
    omega
  rcases bdK_is adj o adj.length with h | ⟨j, hj, h⟩
  · rcases h2 with h2 | ⟨v, w, h3, h4⟩
    · omega
    · have := a1 v w h3; omega
  · obtain ⟨f1, f2, f3⟩ := fsV_is hV hp hj
    have hlow : bdK adj o adj.length ≤ b := by
      rcases f3 with f3 | ⟨w, f3, f4⟩
      · unfold hdV at h; omega
      · have := h1 _ _ f3
        rw [hp.pos_ord hj] at this
        unfold hdV at h; omega
    rcases h2 with h2 | ⟨v, w, h3, h4⟩
    · omega
    · have := a1 v w h3; omega
theorem Bandwidth_ok (hn : adj.length ≤ 12) : d_rcm_Bandwidth ((adj, ()), o, ()) = some ((bdK adj o adj.length : Int), 0, ()) := by
  have h0 : permE adj o = 0 := perm_iff (by omega) hV hp
  unfold d_rcm_Bandwidth
  simp only [Permuted_eq (hV.hc (by omega)) o (fun _ _ => hn) (by rw [hp.1]; omega), h0, Option.bind_some, bne_self_eq_false, cond_false, positions_eq hp (show adj.length ≤ 4000 by omega)]
  rw [← Ok.eq_iff]
  refine Ok.bind_of (P := fun r => r = ((bdK adj o adj.length : Int), ())) ?_ (by rintro _ rfl; exact Ok.some_iff.2 rfl)
  refine Ok.seq adj.length (fun i s => ∃ b : Nat, s = ((b : Int), (i : Int), ()) ∧ (∀ v w, v < i → Nb adj v w → posN o v ≤ posN o w + b) ∧ (b = 0 ∨ ∃ v w, Nb adj v w ∧ posN o v = posN o w + b)) 0 ⟨0, rfl, fun v w h => by omega, .inl rfl⟩ (Nat.zero_le _) ?_ ?_
  · rintro i _ _ hi ⟨b, rfl, hb1, hb2⟩
    have hga : getI adj (i : Int) = some adj[i] := getN_some (List.getElem?_eq_getElem hi)
    have hvl := (hV.asc _ hi).length
    have hpi := (hp.pos hi).1
    have hgi : getI (fT adj.length (fun x => (posN o x : Int))) (i : Int) = some (posN o i : Int) := getN_some (fT_get hi)
    simp (disch := omega) only [cond_dec, if_pos, hga, Option.bind_some]
    refine Ok.bind_of (P := fun s => ∃ b : Nat, s = ((b : Int), ()) ∧ (∀ v w, v < i + 1 → Nb adj v w → posN o v ≤ posN o w + b) ∧ (b = 0 ∨ ∃ v w, Nb adj v w ∧ posN o v = posN o w + b)) ?_ ?_
    · refine Ok.seq adj[i].length (fun j s => ∃ b : Nat, s = ((b : Int), (j : Int), ()) ∧ (∀ v w, v < i → Nb adj v w → posN o v ≤ posN o w + b) ∧ (∀ w : Nat, (w : Int) ∈ adj[i].take j → posN o i ≤ posN o w + b) ∧ (b = 0 ∨ ∃ v w, Nb adj v w ∧ posN o v = posN o w + b)) 0 ⟨b, rfl, hb1, by simp, hb2⟩ (Nat.zero_le _) ?_ ?_
      · rintro j _ _ hj ⟨b, rfl, hb1, hb3, hb2⟩
        obtain ⟨w, hw, hwn⟩ := nb_get hV hi hj
        have hgj : getI adj[i] (j : Int) = some (w : Int) := getN_some (by rw [List.getElem?_eq_getElem hj, hw])
        have hgp : getI (fT adj.length (fun x => (posN o x : Int))) (w : Int) = some (posN o w : Int) := getN_some (fT_get hwn)
        have hpw := (hp.pos hwn).1
        have hnb : Nb adj i w := ⟨hi, by rw [← hw]; exact List.getElem_mem _⟩
        have hts := take_mem_succ hj hw
        have hwr : IntKind.i64.wrap ((posN o i : Int) - (posN o w : Int)) = (posN o i : Int) - (posN o w : Int) := by rw [wrap64] <;> omega
        simp (disch := omega) only [cond_dec, if_pos, hgj, hgi, hgp, Option.bind_some, wrap_inc, hwr]
        by_cases c : (posN o i : Int) - (posN o w : Int) > (b : Int)
        · rw [if_pos c]
          refine Ok.some_iff.2 ⟨posN o i - posN o w, ?_, fun v x h1 h2 => ?_, fun x hx => ?_, .inr ⟨i, w, hnb, by omega⟩⟩
          · rw [show ((posN o i - posN o w : Nat) : Int) = (posN o i : Int) - (posN o w : Int) by omega]
          · have := hb1 v x h1 h2; omega
          · rcases (hts x).1 hx with hx | rfl
            · have := hb3 x hx; omega
            · omega
        · rw [if_neg c]
          refine Ok.some_iff.2 ⟨b, rfl, hb1, fun x hx => ?_, hb2⟩
          rcases (hts x).1 hx with hx | rfl
          · exact hb3 x hx
          · omega
      · rintro _ ⟨b, rfl, hb1, hb3, hb2⟩
        simp (disch := omega) only [cond_dec, if_neg]
        rw [List.take_length] at hb3
        refine Ok.some_iff.2 ⟨b, rfl, fun v w h1 h2 => ?_, hb2⟩
        by_cases e : v = i
        · subst e; exact hb3 w h2.2
        · exact hb1 v w (by omega) h2
    · rintro _ ⟨b, rfl, hb1, hb2⟩
      simp (disch := omega) only [wrap_inc]
      exact Ok.some_iff.2 ⟨b, rfl, hb1, hb2⟩
  · rintro _ ⟨b, rfl, hb1, hb2⟩
    simp (disch := omega) only [cond_dec, if_neg]
    rw [band_uniq hV hp (b := b) (fun v w h => hb1 v w (h.lt hV).1 h) hb2]
    exact Ok.some_iff.2 rfl
theorem Profile_ok (hn : adj.length ≤ 12) : d_rcm_Profile ((adj, ()), o, ()) = some ((prK adj o adj.length : Int), 0, ()) := by
  have h0 : permE adj o = 0 := perm_iff (by omega) hV hp
  unfold d_rcm_Profile
  simp only [Permuted_eq (hV.hc (by omega)) o (fun _ _ => hn) (by rw [hp.1]; omega), h0, Option.bind_some, bne_self_eq_false, cond_false, positions_eq hp (show adj.length ≤ 4000 by omega), hp.1]
  refine bindR ((prK adj o adj.length : Int), ()) rfl (loop_seq adj.length (fun k => ((prK adj o k : Int), (k : Int), ())) 0 rfl (Nat.zero_le _) ?_ ?_)
  · intro k _ hk
    obtain ⟨h1, h2⟩ := hp.get hk
    have hga : getI adj ((ordN o k : Nat) : Int) = some adj[ordN o k] := getN_some (List.getElem?_eq_getElem h2)
    have hget : adj.getD (ordN o k) [] = adj[ordN o k] := getD_lt h2 []
    have hvl := (hV.asc _ h2).length
    simp (disch := omega) only [cond_dec, if_pos, h1, hga, Option.bind_some]
    refine bindR ((fsV adj o k : Int), ()) ?_ (loop_seq adj[ordN o k].length (fun j => ((fsK adj o k j : Int), (j : Int), ())) 0 (by simp [fsK]) (Nat.zero_le _) ?_ ?_)
    · have hf := (fsV_is hV hp hk).1
      have hpk := prK_le adj o k
      have hkk : k * k ≤ 12 * 12 := Nat.mul_le_mul (by omega) (by omega)
      have e1 : prK adj o k + (k - fsV adj o k) = prK adj o (k + 1) := by rw [prK_succ]; rfl
      simp (disch := omega) only [Option.bind_some, wrap_sub, wrap_add, wrap_inc, e1]
    · intro j _ hj
      obtain ⟨w, hw, hwn⟩ := nb_get hV h2 hj
      have hgj : getI adj[ordN o k] (j : Int) = some (w : Int) := getN_some (by rw [List.getElem?_eq_getElem hj, hw])
      have hgp : getI (fT adj.length (fun x => (posN o x : Int))) (w : Int) = some (posN o w : Int) := getN_some (fT_get hwn)
      have hw' : (adj.getD (ordN o k) [])[j]'(by rw [hget]; exact hj) = (w : Int) := by simp only [hget]; exact hw
      rw [fsK_succ adj o k (by rw [hget]; exact hj), hw', Int.toNat_natCast]
      simp (disch := omega) only [cond_dec, if_pos, hgj, hgp, Option.bind_some, wrap_inc]
      by_cases c : posN o w < fsK adj o k j
      · rw [if_pos (by omega), if_pos c]
      · rw [if_neg (by omega), if_neg c]
    · simp (disch := omega) only [cond_dec, if_neg]
      unfold fsV; rw [hget]
  · simp (disch := omega) only [cond_dec, if_neg]
end
end Go.Fw
end

section
namespace Go.Fw
set_option linter.unusedSimpArgs false
set_option linter.unusedVariables false
open Go
theorem natL_isPerm {l : List Nat} {n : Nat} (h1 : l.length = n) (h2 : ∀ x ∈ l, x < n) (h3 : l.Nodup) : IsPerm (natL l) n :=
  ⟨by rw [natL_length]; exact h1, fun x hx => by obtain ⟨y, hy, rfl⟩ := List.mem_map.1 hx; have := h2 y hy; omega, natL_nodup h3⟩
section
variable {adj : List (List Int)} (hV : Valid adj) (hn : adj.length ≤ 12)
include hV hn
end
section
variable {adj : List (List Int)} (hc : ∀ l ∈ adj, l.length < 4611686018427387904) (ho : adj.length ≤ 200 → Valid adj → adj.length ≤ 12)
include hc ho
variable (o : List Int) (hol : o.length < 4611686018427387904)
include hol
end
section
variable {adj : List (List Int)} (hV : Valid adj) {o : List Int}
include hV
end
section
variable {adj : List (List Int)} (hV : Valid adj) {o : List Int} (hp : IsPerm o adj.length)
include hV hp
omit hV hp in
theorem bd_le_pr : ∀ k, bdK adj o k ≤ prK adj o k := by
  intro k
  induction k with
  | zero => exact Nat.le_refl _
  | succ k ih => rw [bdK_succ, prK_succ]; omega
omit hV hp in
theorem pr_le_bd (n : Nat) : ∀ k, k ≤ n → prK adj o k ≤ k * bdK adj o n := by
  intro k
  induction k with
  | zero => intro _; simp [prK]
  | succ k ih =>
    intro hk
    have := ih (by omega)
    have h2 := bdK_ge adj o (k := n) (j := k) (by omega)
    rw [prK_succ, Nat.succ_mul]; omega
theorem band_ge {v w : Nat} (h : Nb adj v w) : posN o v ≤ posN o w + bdK adj o adj.length := by
  obtain ⟨v1, w1⟩ := h.lt hV
  obtain ⟨p1, p2⟩ := hp.pos v1
  obtain ⟨f1, f2, f3⟩ := fsV_is hV hp p1
  have := bdK_ge adj o p1
  have := f2 w (by rw [p2]; exact h)
  unfold hdV at *
  omega
theorem band_at : bdK adj o adj.length = 0 ∨ ∃ v w, Nb adj v w ∧ posN o v = posN o w + bdK adj o adj.length := by
  rcases bdK_is adj o adj.length with h | ⟨j, hj, h⟩
  · exact .inl h
  · obtain ⟨f1, f2, f3⟩ := fsV_is hV hp hj
    rcases f3 with f3 | ⟨w, f3, f4⟩
    · unfold hdV at h; exact .inl (by omega)
    · refine .inr ⟨_, w, f3, ?_⟩
      rw [hp.pos_ord hj]
      unfold hdV at h; omega
omit hV in
theorem back_perm : IsPerm o.reverse adj.length := ⟨by rw [List.length_reverse]; exact hp.1, fun x hx => hp.2.1 x (List.mem_reverse.1 hx), List.pairwise_reverse.2 (List.Pairwise.imp (fun h => Ne.symm h) hp.2.2)⟩
omit hV in
theorem pos_back {x : Nat} (hx : x < adj.length) : posN o.reverse x + posN o x + 1 = adj.length := by
  have hb := back_perm hp
  obtain ⟨h1, h2⟩ := hp.pos hx
  have e : ordN o.reverse (adj.length - 1 - posN o x) = ordN o (posN o x) := by
    unfold ordN
    rw [getD_lt (by rw [List.length_reverse, hp.1]; omega), getD_lt (by rw [hp.1]; exact h1), List.getElem_reverse]
    congr 2
    have := hp.1
    omega
  have := hb.pos_ord (k := adj.length - 1 - posN o x) (by omega)
  rw [e, h2] at this
  omega
theorem band_back : bdK adj o.reverse adj.length = bdK adj o adj.length := by
  have hb := back_perm hp
  refine band_uniq hV hp (fun v w h => ?_) ?_
  · have h1 := band_ge hV hb (Nb.symm hV _ _ h)
    have := pos_back hp (h.lt hV).1
    have := pos_back hp (h.lt hV).2
    omega
  · rcases band_at hV hb with h | ⟨v, w, h, e⟩
    · exact .inl h
    · refine .inr ⟨w, v, Nb.symm hV _ _ h, ?_⟩
      have := pos_back hp (h.lt hV).1
      have := pos_back hp (h.lt hV).2
      omega
end
theorem nat_perm (n : Nat) : IsPerm (natL (List.range n)) n := natL_isPerm (by simp) (fun x hx => List.mem_range.1 hx) List.nodup_range
theorem nat_ord {n k : Nat} (h : k < n) : ordN (natL (List.range n)) k = k := by
  unfold ordN
  rw [getD_lt (by rw [natL_length]; simpa using h)]
  simp [natL]
theorem nat_pos {n k : Nat} (h : k < n) : posN (natL (List.range n)) k = k := by
  have := (nat_perm n).pos_ord h
  rwa [nat_ord h] at this
section
variable {adj : List (List Int)} (hV : Valid adj) (hn : adj.length ≤ 200) {o : List Int} (hp : IsPerm o adj.length)
include hV hn hp
theorem relabel_hd {k : Nat} (hk : k < adj.length) : hdV (fromT (indT adj o)) (natL (List.range adj.length)) k = hdV adj o k := by
  obtain ⟨i1, i2, i3, i4, i5⟩ := ind_facts (perm_iff hn hV hp)
  have hlen : (fromT (indT adj o)).length = adj.length := by rw [i1, hp.1]
  have hnp : IsPerm (natL (List.range adj.length)) (fromT (indT adj o)).length := by rw [hlen]; exact nat_perm _
  obtain ⟨f1, f2, f3⟩ := fsV_is i3 hnp (k := k) (by omega)
  obtain ⟨e1, e2, e3⟩ := fsV_is hV hp hk
  rw [nat_ord hk] at f2 f3
  have hle1 : fsV adj o k ≤ fsV (fromT (indT adj o)) (natL (List.range adj.length)) k := by
    rcases f3 with f3 | ⟨w, f3, f4⟩
    · omega
    · have hw : w < adj.length := by have := (f3.lt i3).2; omega
      rw [nat_pos hw] at f4
      have := e2 _ ((nb_ind hV hp hk hw).1 f3)
      rw [hp.pos_ord hw] at this
      omega
  have hle2 : fsV (fromT (indT adj o)) (natL (List.range adj.length)) k ≤ fsV adj o k := by
    rcases e3 with e3 | ⟨w, e3, e4⟩
    · omega
    · have hw := (e3.lt hV).2
      obtain ⟨p1, p2⟩ := hp.pos hw
      have := f2 (posN o w) ((nb_ind hV hp hk p1).2 (by rw [p2]; exact e3))
      rw [nat_pos p1] at this
      omega
  unfold hdV
  omega
theorem relabel_pr : prK (fromT (indT adj o)) (natL (List.range adj.length)) adj.length = prK adj o adj.length := by
  unfold prK
  congr 1
  exact List.map_congr_left fun k hk => relabel_hd hV hn hp (List.mem_range.1 hk)
theorem relabel_bd : bdK (fromT (indT adj o)) (natL (List.range adj.length)) adj.length = bdK adj o adj.length := by
  unfold bdK
  congr 1
  exact List.map_congr_left fun k hk => relabel_hd hV hn hp (List.mem_range.1 hk)
end
theorem RcmReversed_true (n : Int) (l o : List Int) : d_sparselaw17q_RcmReversed (n, l, o, ()) = some (true, ()) := by
  classical
  rw [← Ok.eq_iff]
  unfold d_sparselaw17q_RcmReversed
  simp only [cond_dec, awake17, Option.bind_some, Place_eq n 13 (by omega) (by omega)]
  refine Ok.ite (fun _ => Ok.some_iff.2 rfl) (fun hl => ?_)
  obtain ⟨m, hm, hm2⟩ := place_nat n 13 (by omega)
  rw [hm]
  refine Ok.bind_of (Graph_ok m l (by omega) (by omega)) ?_
  rintro ⟨⟨adj, ⟨⟩⟩, ⟨⟩⟩ ⟨hal, hV, hx⟩
  simp only at hal hV hx
  subst hal
  refine Ok.bind_of (Shuffle_ok o adj.length (by omega)) ?_
  rintro ⟨p, ⟨⟩⟩ hp
  simp only at hp
  have hn : adj.length ≤ 12 := by omega
  refine Ok.bind_of (P := fun r => r = ((adj, ()), p.reverse, natL (List.range adj.length), ())) ?_ ?_
  · rw [Ok.eq_iff]
    refine loop_for adj.length (fun k => ((adj, ()), p.reverse.take k, natL (List.range k), ())) 0 rfl rfl (Nat.zero_le _) ?_ ?_
    · intro k _ hk
      have e1 : IntKind.i64.wrap (IntKind.i64.wrap ((adj.length : Int) - 1) - (k : Int)) = ((adj.length - 1 - k : Nat) : Int) := by
        rw [wrap_pred (by omega) (by omega), wrap_sub (by omega) (by omega)]
      have hpl := hp.1
      have hg : getI p ((adj.length - 1 - k : Nat) : Int) = some (p.reverse[k]'(by rw [List.length_reverse]; omega)) := by
        refine getN_some ?_
        rw [List.getElem_reverse, ← List.getElem?_eq_getElem]
        congr 1
        omega
      have hlt : (p.reverse.take k).length ≤ k := by rw [List.length_take]; omega
      simp (disch := first | omega | (simp [natL_length]; omega)) only [if_pos, e1, hg, Option.bind_some, limO_ok, wrap_inc]
      rw [take_snoc (by rw [List.length_reverse]; omega), List.range_succ, natL_append]
      rfl
    · simp (disch := omega) only [if_neg]
      rw [List.take_of_length_le (by rw [List.length_reverse, hp.1]; omega)]
  · rintro _ rfl
    have hn2 : adj.length ≤ 200 := by omega
    have h0 := perm_iff hn2 hV hp
    obtain ⟨i1, i2, i3, i4, i5⟩ := ind_facts h0
    have hlen : (fromT (indT adj p)).length = adj.length := by rw [i1, hp.1]
    have hnp : IsPerm (natL (List.range adj.length)) (fromT (indT adj p)).length := by rw [hlen]; exact nat_perm _
    have b1 := Bandwidth_ok i3 hnp (by omega)
    have b2 := Profile_ok i3 hnp (by omega)
    rw [hlen, relabel_bd hV hn2 hp] at b1
    rw [hlen, relabel_pr hV hn2 hp] at b2
    have hle := bd_le_pr (adj := adj) (o := p) adj.length
    have hge := pr_le_bd (adj := adj) (o := p) adj.length adj.length (Nat.le_refl _)
    have hb := bdK_le adj p adj.length
    have hmul : adj.length * bdK adj p adj.length ≤ 12 * 12 := Nat.mul_le_mul hn (by omega)
    have e1 : IntKind.i64.wrap ((adj.length : Int) * (bdK adj p adj.length : Int)) = ((adj.length * bdK adj p adj.length : Nat) : Int) := by
      rw [← Int.natCast_mul]; exact wrapN (by omega)
    simp only [Relabel_eq (hV.hc hn2) p (fun _ _ => hn) (by rw [hp.1]; omega), h0, if_true, Bandwidth_ok hV hp hn, Bandwidth_ok hV (back_perm hp) hn, band_back hV hp, Profile_ok hV hp hn, b1, b2, Option.bind_some, beq_self_eq_true, cond_true, cond_dec_beq, e1]
    rw [if_pos (by omega), if_pos (by omega)]
    exact Ok.some_iff.2 rfl
end Go.Fw
end
