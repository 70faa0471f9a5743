/-
  The plain laws, part 8: rows and columns of the factor's pattern.
-/
import Derived.Test.YtlalecmgnaoiiaaPl7
set_option linter.unusedSimpArgs false
set_option linter.unusedVariables false
namespace Go.Fw

/-- i is in column j. -/
def InCol (adj : List (List Int)) (j i : Nat) : Prop := i = j ∨ (j < i ∧ Walk (Nb adj) j j i)

open Classical in
noncomputable def rowV (adj : List (List Int)) (i : Nat) : List Int := ((List.range (i + 1)).filter fun j => decide (InCol adj j i)).map fun (j : Nat) => (j : Int)
open Classical in
/-- Column j as far as the rows before k. -/
noncomputable def colK (adj : List (List Int)) (j k : Nat) : List Int := ((List.range k).filter fun i => decide (j ≤ i ∧ InCol adj j i)).map fun (i : Nat) => (i : Int)
noncomputable def colV (adj : List (List Int)) (j : Nat) : List Int := colK adj j adj.length

theorem mem_rowV {adj : List (List Int)} {i j : Nat} : (j : Int) ∈ rowV adj i ↔ j ≤ i ∧ InCol adj j i := by
  unfold rowV
  simp only [List.mem_map, List.mem_filter, List.mem_range, decide_eq_true_eq]
  constructor
  · rintro ⟨a, ⟨h1, h2⟩, h3⟩
    have : a = j := by omega
    subst this
    exact ⟨by omega, h2⟩
  · exact fun ⟨h1, h2⟩ => ⟨j, ⟨by omega, h2⟩, rfl⟩

theorem mem_rowV' {adj : List (List Int)} {i : Nat} {x : Int} (h : x ∈ rowV adj i) : ∃ j : Nat, x = (j : Int) ∧ j ≤ i ∧ InCol adj j i := by
  unfold rowV at h
  simp only [List.mem_map, List.mem_filter, List.mem_range, decide_eq_true_eq] at h
  obtain ⟨a, ⟨h1, h2⟩, h3⟩ := h
  exact ⟨a, h3.symm, by omega, h2⟩

theorem InCol.le {adj : List (List Int)} {j i : Nat} (h : InCol adj j i) : j ≤ i := by
  rcases h with h | h <;> omega

theorem mem_colV {adj : List (List Int)} {i j : Nat} : (i : Int) ∈ colV adj j ↔ i < adj.length ∧ InCol adj j i := by
  unfold colV colK
  simp only [List.mem_map, List.mem_filter, List.mem_range, decide_eq_true_eq]
  constructor
  · rintro ⟨a, ⟨h1, h2⟩, h3⟩
    have : a = i := by omega
    subst this
    exact ⟨h1, h2.2⟩
  · exact fun ⟨h1, h2⟩ => ⟨i, ⟨h1, h2.le, h2⟩, rfl⟩

theorem sorted_filter (p : Nat → Bool) (k : Nat) : (((List.range k).filter p).map fun (j : Nat) => (j : Int)).Pairwise (· < ·) := by
  rw [List.pairwise_map]
  refine List.Pairwise.filter _ ?_
  exact (List.pairwise_lt_range).imp (fun h => by omega)

theorem rowV_asc (adj : List (List Int)) (i : Nat) : (rowV adj i).Pairwise (· < ·) := sorted_filter _ _
theorem colV_asc (adj : List (List Int)) (j : Nat) : (colV adj j).Pairwise (· < ·) := sorted_filter _ _

theorem rowV_length (adj : List (List Int)) (i : Nat) : (rowV adj i).length ≤ i + 1 := by
  unfold rowV
  rw [List.length_map]
  exact Nat.le_trans (List.length_filter_le _ _) (by simp)
theorem colK_length (adj : List (List Int)) (j k : Nat) : (colK adj j k).length ≤ k := by
  unfold colK
  rw [List.length_map]
  exact Nat.le_trans (List.length_filter_le _ _) (by simp)

/-- The marks: those below i that lie above one of the neighbours so far. -/
structure Marks (adj : List (List Int)) (i : Nat) (N : Nat → Prop) (m : List Bool) : Prop where
  len : m.length = i + 1
  top : m[i]? = some true
  iff : ∀ u, u < i → (m[u]? = some true ↔ ∃ k, N k ∧ Anc (Nb adj) k u)

/-- The way up from one neighbour. -/
theorem climb {adj : List (List Int)} (hV : Valid adj) {par : List Int} (hF : Forest adj par) {i : Nat} (hi : i < adj.length) (hn : adj.length ≤ 200) {N : Nat → Prop} {m0 : List Bool} (hM : Marks adj i N m0) {k0 : Nat} (hk : k0 < adj.length) :
    Ok (loop (σ := (Int × (List Bool) × Unit)) (ρ := ((List Bool) × Unit)) (fun (j_32, marked_33, _) =>
  Option.bind (α := ((List Bool) × Unit) ⊕ ((Int × (List Bool) × Unit) ⊕ ((List Bool) × Unit))) (
  (bif ((decide (j_32 ≥ ((0) : Int))) == true) then ((bif ((decide (j_32 < (i : Int))) == true) then ((idxN (marked_33).length j_32).bind fun k34 =>
  ((atO marked_33 k34 fun e35 => some e35)).bind fun y36 =>
  (bif (!y36) then (
  some (.inl (marked_33, ()))) else (
  some (.inr (.inr (marked_33, ())))))) else (some (.inr (.inr (marked_33, ())))))) else (some (.inr (.inr (marked_33, ())))))) fun q => match q with
  | .inl (marked_37, _) => (
  (idxN (marked_37).length j_32).bind fun k38 =>
  ((atO marked_37 k38 fun _ => some ((marked_37).set k38 true))).bind fun z40 =>
  (getI par j_32).bind fun y41 =>
  some (.inl (y41, z40, ())))
  | .inr r => some r) ((k0 : Int), m0, ())) (fun r => Marks adj i (fun k => N k ∨ k = k0) r.1) := by
  refine Ok.loop (fun s => s.2.1.length = i + 1 ∧ s.2.1[i]? = some true ∧ (s.1 = -1 ∨ ∃ j : Nat, s.1 = (j : Int) ∧ j < adj.length ∧ Anc (Nb adj) k0 j) ∧
      (∀ u, u < i → s.2.1[u]? = some true → m0[u]? = some true ∨ Anc (Nb adj) k0 u) ∧ (∀ u, u < i → m0[u]? = some true → s.2.1[u]? = some true) ∧
      (∀ u, u < i → Anc (Nb adj) k0 u → s.2.1[u]? = some true ∨ ∃ j : Nat, s.1 = (j : Int) ∧ Anc (Nb adj) j u) ∧
      (∀ u p, u < i → p < i → s.2.1[u]? = some true → IsPar (Nb adj) u p → s.2.1[p]? = some true ∨ s.1 = (p : Int)))
    (fun s => if s.1 = -1 then 0 else 1000 - s.1.toNat) ?_ ?_
  · refine ⟨hM.len, hM.top, .inr ⟨k0, rfl, hk, .refl _⟩, fun u _ h => .inl h, fun u _ h => h, fun u _ h => .inr ⟨k0, rfl, h⟩, fun u p hu hp hm hpar => .inl ?_⟩
    obtain ⟨k, hk1, hk2⟩ := (hM.iff u hu).1 hm
    exact (hM.iff p hp).2 ⟨k, hk1, hk2.trans (.up hpar (.refl _))⟩
  rintro ⟨j', m, _⟩ ⟨hl, ht, hj, h1, h2, h3, h4⟩
  simp only at hl ht hj h1 h2 h3 h4
  -- the end
  have fin : (∀ u, u < i → Anc (Nb adj) k0 u → m[u]? = some true) → Marks adj i (fun k => N k ∨ k = k0) m := fun hall => by
    refine ⟨hl, ht, fun u hu => ⟨fun hm => ?_, ?_⟩⟩
    · rcases h1 u hu hm with h | h
      · obtain ⟨k, hk1, hk2⟩ := (hM.iff u hu).1 h
        exact ⟨k, .inl hk1, hk2⟩
      · exact ⟨k0, .inr rfl, h⟩
    · rintro ⟨k, hk1 | rfl, hk2⟩
      · exact h2 u hu ((hM.iff u hu).2 ⟨k, hk1, hk2⟩)
      · exact hall u hu hk2
  simp only [Ok.bind_iff, Ok.bif_iff, Ok.some_iff, Ok.idxN_iff, Ok.atO_iff]
  rcases hj with rfl | ⟨j, rfl, hjl, hanc⟩
  · refine ⟨fun hf => by simp at hf, fun _ => fin fun u hu ha => ?_⟩
    rcases h3 u hu ha with h | ⟨j, hj, _⟩
    · exact h
    · omega
  refine ⟨fun _ => ⟨fun hji => ?_, fun hji => ?_⟩, fun hf => by simp at hf⟩
  · have hji : j < i := by simpa using hji
    have hjm : j < m.length := by omega
    simp only [Int.toNat_natCast]
    refine ⟨⟨by omega, hjm⟩, hjm, fun hno => ?_, fun hyes => ?_⟩
    · -- a new mark
      have hjp : j < par.length := by rw [hF.len]; exact hjl
      refine ⟨⟨by omega, hjm⟩, hjm, ?_⟩
      rw [Ok.getN_iff]
      refine ⟨hjp, ?_⟩
      have hget : par[j]? = some par[j] := List.getElem?_eq_getElem hjp
      have hpc : par[j] = -1 ∨ ∃ p : Nat, par[j] = (p : Int) ∧ IsPar (Nb adj) j p := by
        rcases hF.none j _ hget with e | ⟨p, e⟩
        · exact .inl e
        · exact .inr ⟨p, e, (hF.parI j p).1 (by rw [hget, e])⟩
      have hset : ∀ u, (m.set j true)[u]? = some true ↔ u = j ∨ m[u]? = some true := fun u => by
        by_cases hu : u = j
        · subst hu; simp [List.getElem?_set_self hjm]
        · rw [List.getElem?_set_ne (by omega)]; simp [hu]
      refine ⟨⟨by simp [hl], by rw [List.getElem?_set_ne (by omega)]; exact ht, ?_, fun u hu hm => ?_, fun u hu hm => (hset u).2 (.inr (h2 u hu hm)), fun u hu ha => ?_, fun u p hu hp hm hpar => ?_⟩, ?_⟩
      · rcases hpc with e | ⟨p, e, hp⟩
        · exact .inl e
        · exact .inr ⟨p, e, (hp.2.1.lt hV).2, hanc.trans (.up hp (.refl _))⟩
      · rcases (hset u).1 hm with rfl | hm
        · exact .inr hanc
        · exact h1 u hu hm
      · rcases h3 u hu ha with h | ⟨j2, hj2, ha2⟩
        · exact .inl ((hset u).2 (.inr h))
        · obtain rfl : j2 = j := by omega
          cases ha2 with
          | refl => exact .inl ((hset _).2 (.inl rfl))
          | @up _ p _ hp hv =>
            have := (hF.parI j2 p).2 hp
            rw [hget] at this
            exact .inr ⟨p, Option.some.inj this, hv⟩
      · rcases (hset u).1 hm with rfl | hm
        · have := (hF.parI u p).2 hpar
          rw [hget] at this
          exact .inr (Option.some.inj this)
        · rcases h4 u p hu hp hm hpar with h | h
          · exact .inl ((hset p).2 (.inr h))
          · exact .inl ((hset p).2 (.inl (by omega)))
      · rcases hpc with e | ⟨p, e, hp⟩
        · rw [if_pos e, if_neg (by omega)]; omega
        · have := hp.1
          rw [e, if_neg (by omega), if_neg (by omega)]; omega
    · -- marked already: all above is marked
      have hjt : m[j]? = some true := by
        rw [List.getElem?_eq_getElem hjm]
        simp at hyes
        rw [hyes]
      refine fin fun u hu ha => ?_
      rcases h3 u hu ha with h | ⟨j2, hj2, ha2⟩
      · exact h
      · obtain rfl : j2 = j := by omega
        have : ∀ {a b : Nat}, Anc (Nb adj) a b → b < i → m[a]? = some true → m[b]? = some true := by
          intro a b h
          induction h with
          | refl => exact fun _ h => h
          | @up a p b hp hv ih =>
            intro hb hma
            have hpb := hv.le
            refine ih hb ?_
            rcases h4 a p (by have := hp.1; omega) (by omega) hma hp with h | h
            · exact h
            · have : p = j2 := by omega
              rw [this]; exact hjt
        exact this ha2 hu hjt
  · have hji : i ≤ j := by simpa using hji
    refine fin fun u hu ha => ?_
    rcases h3 u hu ha with h | ⟨j2, hj2, ha2⟩
    · exact h
    · have := ha2.le; omega

open Classical in
theorem row_eq {adj : List (List Int)} (hV : Valid adj) (hc : ∀ l ∈ adj, l.length < 4611686018427387904) {par : List Int} (hF : Forest adj par) {i : Nat} (hi : i < adj.length) (hn : adj.length ≤ 200) :
    d_symbolic_row ((adj, ()), par, (i : Int), ()) = some (rowV adj i, ()) := by
  rw [← Ok.eq_iff]
  unfold d_symbolic_row
  have hlim : lim = 4294967296 := rfl
  have hs := Nb.symm hV
  have hw1 : IntKind.i64.wrap ((i : Int) + 1) = ((i + 1 : Nat) : Int) := wrap_succ (by omega)
  simp only [hw1, Ok.bind_iff, Ok.madeO_iff, Ok.idxN_iff, Ok.atO_iff, Ok.some_iff, Int.toNat_natCast, Ok.getN_iff, List.length_replicate]
  refine ⟨⟨by omega, by omega, by omega⟩, ⟨by omega, by omega⟩, by omega, hi, ?_⟩
  have hli := hc _ (List.getElem_mem hi)
  refine Ok.mono (P := fun q => Marks adj i (fun k => Nb adj i k) q.1) ?_ ?_
  · refine Ok.for (i0 := 0) adj[i].length (fun k t => Marks adj i (fun x => (x : Int) ∈ adj[i].take k) t.1) rfl ?_ (Nat.zero_le _) ?_ ?_
    · refine ⟨by simp, by rw [List.getElem?_set_self (by simp)], fun u hu => ?_⟩
      rw [List.getElem?_set_ne (by omega), List.getElem?_replicate]
      simp
    · rintro k ⟨m, _⟩ _ hk hM
      simp only at hM
      simp only [Ok.bif_iff, Ok.bind_iff, Ok.getN_iff]
      refine ⟨fun _ => ⟨hk, ?_⟩, fun hf => by simp at hf; omega⟩
      have hr := (hV.asc i hi).2 _ (List.getElem_mem hk)
      obtain ⟨w, hw⟩ : ∃ w : Nat, adj[i][k] = (w : Int) := ⟨adj[i][k].toNat, by omega⟩
      rw [hw]
      refine (climb hV hF hi hn hM (k0 := w) (by omega)).mono ?_
      rintro ⟨m', _⟩ hM'
      simp only [Ok.some_iff]
      refine ⟨wrap_succ (by omega), ?_⟩
      have e : (fun x : Nat => (x : Int) ∈ adj[i].take k ∨ x = w) = (fun x : Nat => (x : Int) ∈ adj[i].take (k + 1)) := by
        funext x
        rw [← take_snoc hk, hw]
        apply propext
        simp only [List.mem_append, List.mem_singleton]
        constructor <;> rintro (h | h) <;> first | exact .inl h | (right; omega)
      rw [← e]
      exact hM'
    · rintro ⟨m, _⟩ hM
      simp only [Ok.bif_iff, Ok.some_iff]
      refine ⟨fun hf => by simp at hf, fun _ => ?_⟩
      rw [List.take_length] at hM
      have e : (fun x : Nat => (x : Int) ∈ adj[i]) = (fun x => Nb adj i x) := by
        funext x; exact propext ⟨fun h => ⟨hi, h⟩, fun h => h.2⟩
      rw [← e]; exact hM
  · rintro ⟨m, _⟩ hM
    simp only at hM
    simp only [Ok.bind_iff, Ok.some_iff]
    have hget : ∀ u, (hu : u < m.length) → (m[u] = true ↔ InCol adj u i) := by
      intro u hu
      have hl := hM.len
      rcases Nat.lt_or_ge u i with h | h
      · have := hM.iff u h
        rw [List.getElem?_eq_getElem hu, Option.some.injEq] at this
        rw [this, ← row_iff hs h]
        constructor
        · exact fun hw => .inr ⟨h, hw⟩
        · rintro (e | ⟨_, hw⟩)
          · omega
          · exact hw
      · obtain rfl : u = i := by omega
        have := hM.top
        rw [List.getElem?_eq_getElem hu, Option.some.injEq] at this
        rw [this]
        exact ⟨fun _ => .inl rfl, fun _ => rfl⟩
    have hl := hM.len
    refine Ok.for (i0 := 0) m.length (fun k t => t.1 = m ∧ t.2.1 = ((List.range k).filter fun j => decide (InCol adj j i)).map fun (j : Nat) => (j : Int)) rfl ⟨rfl, rfl⟩ (Nat.zero_le _) ?_ ?_
    · rintro k ⟨m', o, _⟩ _ hk ⟨rfl, ho⟩
      simp only at ho hk hl hget
      have hol : o.length ≤ k := by
        rw [ho, List.length_map]
        exact Nat.le_trans (List.length_filter_le _ _) (by simp)
      simp only [Ok.bif_iff, Ok.bind_iff, Ok.idxN_iff, Ok.atO_iff, Ok.some_iff, Ok.limO_iff, Int.toNat_natCast]
      refine ⟨fun _ => ⟨⟨by omega, hk⟩, hk, fun hm => ⟨?_, wrap_succ (by omega), trivial, ?_⟩, fun hm => ⟨wrap_succ (by omega), trivial, ?_⟩⟩, fun hf => by simp at hf; omega⟩
      · simp; omega
      · have := (hget k hk).1 hm
        rw [List.range_succ, List.filter_append, List.map_append, ← ho]
        simp [this]
      · have : ¬ InCol adj k i := fun h => by rw [(hget k hk).2 h] at hm; cases hm
        rw [List.range_succ, List.filter_append, List.map_append, ← ho]
        simp [this]
    · rintro ⟨m', o, _⟩ ⟨rfl, ho⟩
      simp only at ho
      simp only [Ok.bif_iff, Ok.some_iff]
      refine ⟨fun hf => by simp at hf, fun _ => ?_⟩
      rw [ho]
      unfold rowV
      rw [hl]

open Classical in
theorem colK_succ (adj : List (List Int)) (j k : Nat) : colK adj j (k + 1) = colK adj j k ++ (if j ≤ k ∧ InCol adj j k then [(k : Int)] else []) := by
  unfold colK
  rw [List.range_succ, List.filter_append, List.map_append]
  congr 1
  by_cases h : j ≤ k ∧ InCol adj j k
  · rw [if_pos h]; simp [h]
  · rw [if_neg h]; simp only [List.filter_cons, List.filter_nil]; rw [if_neg (by simpa using h)]; rfl

theorem Columns_ok {adj : List (List Int)} (hV : Valid adj) (hc : ∀ l ∈ adj, l.length < 4611686018427387904) (hn : adj.length ≤ 200) :
    d_symbolic_Columns ((adj, ()), ()) = some ((List.range adj.length).map (colV adj), 0, ()) := by
  classical
  rw [← Ok.eq_iff]
  unfold d_symbolic_Columns
  have hlim : lim = 4294967296 := rfl
  simp only [Ok.bind_iff]
  refine (Parent_ok adj hc hn hV).mono ?_
  rintro ⟨par, e, _⟩ ⟨he, hF⟩
  simp only at he hF
  subst he
  have hpl := hF.len
  simp only [Ok.bif_iff, Ok.bind_iff, Ok.some_iff, Ok.madeO_iff, Int.toNat_natCast]
  refine ⟨fun h => by simp at h, fun _ => ⟨⟨by omega, by omega, by omega⟩, ?_⟩⟩
  rw [hpl]
  refine Ok.for (i0 := 0) adj.length (fun i t => t.1 = (List.range adj.length).map fun j => colK adj j i) rfl ?_ (Nat.zero_le _) ?_ ?_
  · apply List.ext_getElem?
    intro k
    simp [colK, List.getElem?_replicate]
    split <;> simp_all
  · rintro i ⟨out, _⟩ _ hi ho
    simp only at ho
    simp only [Ok.bif_iff, Ok.bind_iff, row_eq hV hc hF hi hn, Ok.some_iff]
    refine ⟨fun _ => ?_, fun hf => by simp at hf; omega⟩
    have hrl := rowV_length adj i
    -- the row's elements, one after the other
    refine Ok.mono (P := fun q => q.1 = (List.range adj.length).map fun j => colK adj j (i + 1)) ?_ ?_
    · refine Ok.for (i0 := 0) (rowV adj i).length (fun k t => t.2.1 = rowV adj i ∧ t.1 = (List.range adj.length).map fun j => colK adj j i ++ (if (j : Int) ∈ (rowV adj i).take k then [(i : Int)] else [])) rfl ?_ (Nat.zero_le _) ?_ ?_
      · refine ⟨rfl, ?_⟩
        rw [ho]
        simp
      · rintro k ⟨o, r, _⟩ _ hk ⟨hr, ho'⟩
        simp only at hr ho'
        subst hr
        obtain ⟨j, hj, hji, _⟩ := mem_rowV' (List.getElem_mem hk)
        have hol : o.length = adj.length := by rw [ho']; simp
        have hjo : j < o.length := by omega
        have hnew : (j : Int) ∉ (rowV adj i).take k := fun hm => by
          obtain ⟨m, hm1, hm2⟩ := List.mem_iff_getElem.1 hm
          simp only [List.length_take] at hm1
          simp only [List.getElem_take] at hm2
          have := (List.pairwise_iff_getElem.1 (rowV_asc adj i)) m k (by omega) hk (by omega)
          omega
        have hoj : o[j] = colK adj j i := by
          have : o[j]? = some (colK adj j i) := by
            rw [ho', List.getElem?_map, List.getElem?_range (by omega)]
            simp only [Option.map_some]
            rw [if_neg hnew, List.append_nil]
          rw [List.getElem?_eq_getElem hjo] at this
          exact Option.some.inj this
        have hcl := colK_length adj j i
        simp only [Ok.bif_iff, Ok.bind_iff, Ok.idxN_iff, Ok.atO_iff, Ok.some_iff, Ok.limO_iff, Int.toNat_natCast, hj, Nat.beq_refl, Bool.and_self, Ok.none_iff]
        refine ⟨fun _ => ⟨⟨by omega, hk⟩, hk, ⟨by omega, hjo⟩, hjo, ?_, ⟨by omega, hjo⟩, fun _ => ⟨hjo, hjo, wrap_succ (by omega), trivial, ?_⟩, fun h => by cases h⟩, fun hf => by simp at hf; omega⟩
        · rw [hoj]; simp; omega
        · apply List.ext_getElem?
          intro u
          rw [List.getElem?_set]
          by_cases hu : j = u
          · subst hu
            rw [if_pos rfl, if_pos hjo, List.getElem?_map, List.getElem?_range (show j < adj.length by omega)]
            simp only [Option.map_some]
            rw [hoj, if_pos]
            rw [← take_snoc hk, hj]; simp
          · rw [if_neg hu, ho', List.getElem?_map, List.getElem?_map]
            rcases Nat.lt_or_ge u adj.length with h | h
            · rw [List.getElem?_range h]
              simp only [Option.map_some]
              congr 2
              rw [← take_snoc hk, hj]
              have : ((u : Int) = (j : Int)) ↔ False := iff_of_false (by omega) id
              simp only [List.mem_append, List.mem_singleton, this, or_false]
            · rw [List.getElem?_eq_none (by simpa using h)]; rfl
      · rintro ⟨o, r, _⟩ ⟨hr, ho'⟩
        simp only at hr ho'
        subst hr
        simp only [Ok.bif_iff, Ok.some_iff]
        refine ⟨fun hf => by simp at hf, fun _ => ?_⟩
        rw [ho', List.take_length]
        refine List.map_congr_left fun j _ => ?_
        rw [colK_succ]
        congr 1
        by_cases h : j ≤ i ∧ InCol adj j i
        · rw [if_pos h, if_pos (mem_rowV.2 h)]
        · rw [if_neg h, if_neg (fun hm => h (mem_rowV.1 hm))]
    · rintro ⟨o, _⟩ ho'
      exact ⟨wrap_succ (by omega), ho'⟩
  · rintro ⟨out, _⟩ ho
    simp only at ho
    simp only [Ok.bif_iff, Ok.some_iff]
    refine ⟨fun hf => by simp at hf, fun _ => ?_⟩
    rw [ho]; rfl
end Go.Fw
