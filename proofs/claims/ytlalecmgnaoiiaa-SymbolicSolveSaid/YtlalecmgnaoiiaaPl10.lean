/-
  The plain laws, part 10: the law SymbolicTree on the pure programs.
-/
import Derived.Test.YtlalecmgnaoiiaaPl9
set_option linter.unusedSimpArgs false
set_option linter.unusedVariables false
namespace Go.Fw

theorem colV_cons {adj : List (List Int)} (hV : Valid adj) {j : Nat} (hj : j < adj.length) : ∃ r, colV adj j = (j : Int) :: r ∧ (∀ x ∈ r, ∃ i : Nat, x = (i : Int) ∧ j < i ∧ i < adj.length ∧ Walk (Nb adj) j j i) ∧ (∀ i : Nat, j < i → Walk (Nb adj) j j i → (i : Int) ∈ r) ∧ r.Pairwise (· < ·) := by
  have hm : (j : Int) ∈ colV adj j := mem_colV.2 ⟨hj, .inl rfl⟩
  have hs := colV_asc adj j
  have hall : ∀ x ∈ colV adj j, ∃ i : Nat, x = (i : Int) ∧ i < adj.length ∧ InCol adj j i := by
    intro x hx
    have hx' := hx
    unfold colV colK at hx
    simp only [List.mem_map] at hx
    obtain ⟨i, _, rfl⟩ := hx
    exact ⟨i, rfl, mem_colV.1 hx'⟩
  generalize hL : colV adj j = L at hm hs hall
  cases L with
  | nil => cases hm
  | cons x r =>
    rw [List.pairwise_cons] at hs
    have hx : x = (j : Int) := by
      obtain ⟨i, rfl, _, hi⟩ := hall x (List.mem_cons_self ..)
      have := hi.le
      rcases List.mem_cons.1 hm with h | h
      · exact h.symm
      · have := hs.1 _ h; omega
    subst hx
    refine ⟨r, rfl, fun y hy => ?_, fun i hi hw => ?_, hs.2⟩
    · obtain ⟨i, rfl, h1, h2⟩ := hall y (List.mem_cons_of_mem _ hy)
      have := hs.1 _ hy
      rcases h2 with h2 | h2
      · omega
      · exact ⟨i, rfl, h2.1, h1, h2.2⟩
    · have : (i : Int) ∈ colV adj j := mem_colV.2 ⟨(hw.lt hV).2, .inr ⟨hi, hw⟩⟩
      rw [hL] at this
      rcases List.mem_cons.1 this with h | h
      · omega
      · exact h

/-- The parent is the next one of the column. -/
theorem par_of_col {adj : List (List Int)} (hV : Valid adj) {par : List Int} (hF : Forest adj par) {j : Nat} (hj : j < adj.length) :
    (colV adj j = [(j : Int)] ∧ par[j]? = some (-1)) ∨ ∃ (p : Nat) (r : List Int), colV adj j = (j : Int) :: (p : Int) :: r ∧ par[j]? = some (p : Int) ∧ IsPar (Nb adj) j p ∧ p < adj.length := by
  obtain ⟨r, h1, h2, h3, h4⟩ := colV_cons hV hj
  cases r with
  | nil =>
    refine .inl ⟨h1, ?_⟩
    have hjp : j < par.length := by rw [hF.len]; exact hj
    have hg : par[j]? = some par[j] := List.getElem?_eq_getElem hjp
    rcases hF.none j _ hg with h | ⟨p, h⟩
    · rw [hg, h]
    · have := (hF.parI j p).1 (by rw [hg, h])
      cases h3 p this.1 this.fill
  | cons x r =>
    obtain ⟨p, rfl, hp1, hp2, hp3⟩ := h2 x (List.mem_cons_self ..)
    have hp : IsPar (Nb adj) j p := by
      refine ⟨hp1, hp3.mono (by omega), fun q hq hqp hw => ?_⟩
      obtain ⟨p', h5, h6⟩ := par_exists hq hw
      have := h3 p' h6.1 h6.fill
      rcases List.mem_cons.1 this with h | h
      · omega
      · have := (List.pairwise_cons.1 h4).1 _ h; omega
    exact .inr ⟨p, r, h1, (hF.parI j p).2 hp, hp, hp2⟩

theorem col_next {adj : List (List Int)} (hV : Valid adj) {j p : Nat} (hp : IsPar (Nb adj) j p) (hpl : p < adj.length) {x : Int} (h : x ∈ colV adj j ∧ (j : Int) < x) : x ∈ colV adj p := by
  obtain ⟨h1, h2⟩ := h
  obtain ⟨r, g1, g2, _⟩ := colV_cons hV (show j < adj.length by have := hp.1; omega)
  rw [g1] at h1
  rcases List.mem_cons.1 h1 with h | h
  · omega
  · obtain ⟨i, rfl, h3, h4, h5⟩ := g2 _ h
    have := hp.least h3 h5
    refine mem_colV.2 ⟨h4, ?_⟩
    rcases Nat.lt_or_ge p i with h6 | h6
    · exact .inr ⟨h6, column_up (Nb.symm hV) hp h6 h5⟩
    · exact .inl (by omega)

theorem getN_some {α : Type} {xs : List α} {i : Nat} {y : α} (h : xs[i]? = some y) : getI xs (i : Int) = some y := by
  unfold getI; rw [if_pos (by omega), Int.toNat_natCast, h]

theorem SymbolicTree_true (n : Int) (l : List Int) : d_sparselaw20q_SymbolicTree (n, l, ()) = some (true, ()) := by
  classical
  rw [← Ok.eq_iff]
  unfold d_sparselaw20q_SymbolicTree
  simp only [Ok.bif_iff, Ok.bind_iff, Ok.some_iff, awake20, Place_eq n 13 (by omega) (by omega)]
  refine ⟨fun _ => trivial, fun hl => ?_⟩
  have hl : l.length ≤ 80 := by simp at hl; omega
  have hp := placeV_lt n 13 (by omega)
  obtain ⟨m, hm⟩ : ∃ m : Nat, placeV n 13 = (m : Int) := ⟨(placeV n 13).toNat, by omega⟩
  rw [hm]
  refine (Graph_ok m l (by omega) (by omega)).mono ?_
  rintro ⟨⟨adj, _⟩, _⟩ ⟨hal, hV, hrow⟩
  simp only at hal hV hrow
  have hc : ∀ l ∈ adj, l.length < 4611686018427387904 := fun l h => by have := hrow l h; omega
  simp only [Columns_ok hV hc (by omega), Ok.some_iff]
  refine (Parent_ok adj hc (by omega) hV).mono ?_
  rintro ⟨par, e, _⟩ ⟨he, hF⟩
  simp only at he hF
  subst he
  have hpl := hF.len
  refine ⟨fun _ => ⟨fun _ => ⟨fun _ => ⟨fun h => ?_, fun _ => ?_⟩, fun h => ?_⟩, fun h => ?_⟩, fun h => ?_⟩
  · simp at h; omega
  · refine Ok.mono (P := fun q => q = .inl ()) ?_ (by rintro _ rfl; simp only [Ok.bind_iff, awake20, Ok.some_iff])
    refine Ok.for (i0 := 0) m (fun _ _ => True) rfl trivial (Nat.zero_le _) ?_ ?_
    · rintro j _ _ hj _
      have hC : ∀ i : Nat, i < adj.length → getI ((List.range adj.length).map (colV adj)) (i : Int) = some (colV adj i) := fun i hi => getN_some (by simp [hi])
      generalize (List.range adj.length).map (colV adj) = C at hC
      have hjC := hC j (by omega)
      have hwj : IntKind.i64.wrap ((j : Int) + 1) = ((j + 1 : Nat) : Int) := wrap_succ (by omega)
      simp only [Ok.bif_iff (b := decide _)]
      refine ⟨fun _ => ?_, fun hf => by simp at hf; omega⟩
      simp only [hjC, Option.bind_some, hwj]
      rcases par_of_col hV hF (show j < adj.length by omega) with ⟨h1, h2⟩ | ⟨p, r, h1, h2, h3, h4⟩
      · have hpj := getN_some h2
        rw [h1]
        have h00 : getI [(j : Int)] (0 : Int) = some (j : Int) := rfl
        simp [Ok.some_iff, Ok.bind_iff, Ok.bif_iff, hpj, h00]
      · have hpj := getN_some h2
        have hCp := hC p (by omega)
        have h00 : getI (colV adj j) (0 : Int) = some (j : Int) := by rw [h1]; rfl
        have h01 : getI (colV adj j) (1 : Int) = some (p : Int) := by rw [h1]; rfl
        have hl1 : 2 ≤ (colV adj j).length := by rw [h1]; simp
        have hl2 := colK_length adj j adj.length
        have hl3 := colK_length adj p adj.length
        have e0 : ((((colV adj j).length : Nat) : Int) == (0 : Int)) = false := by rw [beq_eq_false_iff_ne]; omega
        have e1 : ((((colV adj j).length : Nat) : Int) == (1 : Int)) = false := by rw [beq_eq_false_iff_ne]; omega
        have e2 : decide ((p : Int) < 0) = false := by simp
        have e3 : decide ((p : Int) ≥ (m : Int)) = false := by simp; omega
        simp only [h00, h01, hpj, hCp, e0, e1, e2, e3, Option.bind_some, beq_self_eq_true, bne_self_eq_false, cond_true, cond_false]
        simp only [Ok.bind_iff]
        refine Ok.mono (P := fun q => q = .inl ()) ?_ (by rintro _ rfl; simp only [Ok.some_iff]; exact ⟨trivial, trivial⟩)
        unfold colV at hl1 hl2 hl3
        refine Ok.for (i0 := 1) (colK adj j adj.length).length (fun _ _ => True) rfl trivial (by omega) ?_ ?_
        · rintro k _ h1k hk _
          simp only [Ok.bif_iff, Ok.bind_iff, Ok.getN_iff, Ok.some_iff]
          refine ⟨fun _ => ⟨hk, ?_⟩, fun hf => by simp [colV] at hf; omega⟩
          rw [In_eq _ _ (by unfold colV; omega)]
          simp only [Ok.some_iff]
          have hin := col_next hV h3 h4 (x := (colK adj j adj.length)[k]) (by
            obtain ⟨r', g1, _⟩ := colV_cons hV (show j < adj.length by omega)
            have : (colV adj j).tail = r' := by rw [g1]; rfl
            refine ⟨List.getElem_mem hk, ?_⟩
            have hs := colV_asc adj j
            have := (List.pairwise_iff_getElem.1 hs) 0 k (by unfold colV; omega) hk (by omega)
            have h0 : (colV adj j)[0]'(by unfold colV; omega) = (j : Int) := by simp only [h1, List.getElem_cons_zero]
            rw [h0] at this
            exact this)
          have : decide ((colV adj j)[k] ∈ colV adj p) = true := decide_eq_true hin
          rw [this]
          exact ⟨(fun h => by cases h), (fun _ => ⟨wrap_succ (by omega), trivial⟩)⟩
        · rintro _ _
          simp only [Ok.bif_iff, Ok.some_iff]
          exact ⟨fun hf => by simp [colV] at hf, fun _ => trivial⟩
    · rintro _ _
      simp only [Ok.bif_iff, Ok.some_iff]
      exact ⟨fun hf => by simp at hf, fun _ => trivial⟩
  · simp at h; omega
  · simp at h
  · simp at h
end Go.Fw
