/-
  The plain laws, part 17: the law SymbolicSolve on the pure programs.
-/
import Derived.Test.YtlalecmgnaoiiaaPl16
set_option linter.unusedSimpArgs false
set_option linter.unusedVariables false
namespace Go.Fw

/-- What is reached from b. -/
inductive Rch (cols : List (List Int)) (b : List Int) : Nat → Prop
  | given {x : Nat} : (x : Int) ∈ b → Rch cols b x
  | col {x y : Nat} : Rch cols b y → (h : y < cols.length) → (x : Int) ∈ cols[y] → Rch cols b x

theorem Rch.first {cols : List (List Int)} {b : List Int} (hcol : ∀ k, (h : k < cols.length) → ColOk cols[k] k cols.length) {x : Nat} (h : Rch cols b x) : (x : Int) ∈ b ∨ ∃ y, y < x ∧ Rch cols b y ∧ ∃ h : y < cols.length, (x : Int) ∈ cols[y] := by
  induction h with
  | given h => exact .inl h
  | @col x y hy hl hx ih =>
    have := (hcol y hl).ge _ hx
    rcases Nat.lt_or_ge y x with h | h
    · exact .inr ⟨y, h, hy, hl, hx⟩
    · obtain rfl : y = x := by omega
      exact ih

theorem mark_iff {l : List Int} (h0 : ∀ x ∈ l, 0 ≤ x) : ∀ {m : List Bool} {x : Nat}, ((mark m l)[x]? = some true ↔ m[x]? = some true ∨ (x < m.length ∧ (x : Int) ∈ l)) := by
  induction l with
  | nil => intro m x; simp [mark]
  | cons y l ih =>
    intro m x
    have := ih (fun z hz => h0 z (List.mem_cons_of_mem _ hz)) (m := m.set y.toNat true) (x := x)
    unfold mark at this ⊢
    have hy := h0 y (List.mem_cons_self ..)
    rw [List.foldl_cons, this, List.getElem?_set, List.length_set, List.mem_cons]
    by_cases h : y.toNat = x
    · rw [if_pos h]
      have hx : (x : Int) = y := by omega
      by_cases hl : y.toNat < m.length
      · rw [if_pos hl]; simp [hx]; omega
      · rw [if_neg hl]
        have : ¬ x < m.length := by omega
        simp [this]
    · rw [if_neg h]
      have hx : ¬ (x : Int) = y := by omega
      simp [hx]

open Classical in
theorem reachS_spec {cols : List (List Int)} {b : List Int} (hcol : ∀ k, (h : k < cols.length) → ColOk cols[k] k cols.length) (hb : ∀ x ∈ b, 0 ≤ x ∧ x < (cols.length : Int)) :
    ∀ k, k ≤ cols.length → (reachS cols (mark (List.replicate cols.length false) b) k).2 = ((List.range k).filter fun x => decide (Rch cols b x)).map (fun (x : Nat) => (x : Int)) ∧
      ∀ x, x < cols.length → ((reachS cols (mark (List.replicate cols.length false) b) k).1[x]? = some true ↔ (x : Int) ∈ b ∨ ∃ y, y < k ∧ Rch cols b y ∧ ∃ h : y < cols.length, (x : Int) ∈ cols[y]) := by
  intro k
  induction k with
  | zero =>
    intro _
    refine ⟨rfl, fun x hx => ?_⟩
    show (mark _ b)[x]? = some true ↔ _
    rw [mark_iff (fun x hx => (hb x hx).1)]
    simp [List.getElem?_replicate, hx]
  | succ k ih =>
    intro hk
    obtain ⟨h1, h2⟩ := ih (by omega)
    have hkc : k < cols.length := by omega
    have hmk : (reachS cols (mark (List.replicate cols.length false) b) k).1[k]? = some true ↔ Rch cols b k := by
      rw [h2 k hkc]
      constructor
      · rintro (h | ⟨y, _, hy, hl, hx⟩)
        · exact .given h
        · exact .col hy hl hx
      · intro h
        rcases h.first hcol with h | ⟨y, h3, h4, h5⟩
        · exact .inl h
        · exact .inr ⟨y, h3, h4, h5⟩
    have hlen := (reachS_length cols (mark (List.replicate cols.length false) b) k).1
    rw [mark_length, List.length_replicate] at hlen
    rw [reachS_succ]
    unfold stepR
    have hget : cols.getD k [] = cols[k] := by simp [List.getD, hkc]
    by_cases hR : Rch cols b k
    · rw [if_pos (hmk.2 hR)]
      refine ⟨?_, fun x hx => ?_⟩
      · show _ ++ _ = _
        rw [h1, List.range_succ, List.filter_append, List.map_append]; simp [hR]
      · show (mark _ _)[x]? = some true ↔ _
        rw [hget, mark_iff (fun x hx => by have := (hcol k hkc).ge _ hx; omega), h2 x hx, hlen]
        constructor
        · rintro ((h | ⟨y, h3, h4⟩) | ⟨_, h⟩)
          · exact .inl h
          · exact .inr ⟨y, by omega, h4⟩
          · exact .inr ⟨k, by omega, hR, hkc, h⟩
        · rintro (h | ⟨y, h3, h4, h5, h6⟩)
          · exact .inl (.inl h)
          · rcases Nat.lt_or_ge y k with h | h
            · exact .inl (.inr ⟨y, h, h4, h5, h6⟩)
            · obtain rfl : y = k := by omega
              exact .inr ⟨hx, h6⟩
    · rw [if_neg (fun h => hR (hmk.1 h))]
      refine ⟨?_, fun x hx => ?_⟩
      · rw [h1, List.range_succ, List.filter_append, List.map_append]; simp [hR]
      · rw [h2 x hx]
        constructor
        · rintro (h | ⟨y, h3, h4⟩)
          · exact .inl h
          · exact .inr ⟨y, by omega, h4⟩
        · rintro (h | ⟨y, h3, h4, h5, h6⟩)
          · exact .inl h
          · rcases Nat.lt_or_ge y k with h | h
            · exact .inr ⟨y, h, h4, h5, h6⟩
            · obtain rfl : y = k := by omega
              exact absurd h4 hR

theorem reachV_ok {cols : List (List Int)} {b : List Int} (hn : cols.length ≤ 200) (hcol : ∀ k, (h : k < cols.length) → ColOk cols[k] k cols.length) (hb : ∀ x ∈ b, 0 ≤ x ∧ x < (cols.length : Int)) :
    ∃ r, reachV cols b = (r, 0) ∧ r.Pairwise (· < ·) ∧ r.length ≤ cols.length ∧ (∀ x ∈ r, ∃ v : Nat, x = (v : Int) ∧ v < cols.length) ∧ ∀ v : Nat, v < cols.length → ((v : Int) ∈ r ↔ Rch cols b v) := by
  classical
  refine ⟨((List.range cols.length).filter fun x => decide (Rch cols b x)).map (fun (x : Nat) => (x : Int)), ?_, ?_⟩
  · unfold reachV
    rw [if_neg (by omega), if_pos hcol, if_pos hb, (reachS_spec hcol hb _ (Nat.le_refl _)).1]
  · refine ⟨sorted_filter _ _, ?_, fun x hx => ?_, fun v hv => ?_⟩
    · rw [List.length_map]; exact Nat.le_trans (List.length_filter_le _ _) (by simp)
    · simp only [List.mem_map, List.mem_filter, List.mem_range] at hx
      obtain ⟨v, ⟨h1, _⟩, rfl⟩ := hx
      exact ⟨v, rfl, h1⟩
    · simp only [List.mem_map, List.mem_filter, List.mem_range, decide_eq_true_eq]
      constructor
      · rintro ⟨a, ⟨_, h⟩, e⟩
        obtain rfl : a = v := by omega
        exact h
      · exact fun h => ⟨v, ⟨hv, h⟩, rfl⟩

theorem colV_ok {adj : List (List Int)} (hV : Valid adj) : ∀ k, (h : k < ((List.range adj.length).map (colV adj)).length) → ColOk ((List.range adj.length).map (colV adj))[k] k ((List.range adj.length).map (colV adj)).length := by
  intro k hk
  have hk' : k < adj.length := by simpa using hk
  obtain ⟨r, h1, h2, _⟩ := colV_cons hV hk'
  have e : ((List.range adj.length).map (colV adj))[k] = colV adj k := by simp
  rw [e]
  refine ⟨by rw [h1]; rfl, colV_asc _ _, fun x hx => ?_⟩
  rw [h1] at hx
  rw [List.length_map, List.length_range]
  rcases List.mem_cons.1 hx with h | h
  · omega
  · obtain ⟨i, rfl, _, h3, _⟩ := h2 _ h
    omega

/-- What is reached from one vertex is what lies above it. -/
theorem Rch_anc {adj : List (List Int)} (hV : Valid adj) {v : Nat} (hv : v < adj.length) {x : Nat} : Rch ((List.range adj.length).map (colV adj)) [(v : Int)] x ↔ Anc (Nb adj) v x := by
  constructor
  · intro h
    induction h with
    | given h => rw [List.mem_singleton] at h; rename_i x; obtain rfl : x = v := by omega
                 exact .refl _
    | @col x y _ hl hx ih =>
      have e : ((List.range adj.length).map (colV adj))[y] = colV adj y := by simp
      rw [e] at hx
      obtain ⟨_, h | ⟨h1, h2⟩⟩ := mem_colV.1 hx
      · subst h; exact ih
      · exact ih.trans (anc_of_walk (Nb.symm hV) h1 (h2.mono (by omega)))
  · intro h
    have key : ∀ {u w : Nat}, Anc (Nb adj) u w → Rch ((List.range adj.length).map (colV adj)) [(v : Int)] u → Rch ((List.range adj.length).map (colV adj)) [(v : Int)] w := by
      intro u w h
      induction h with
      | refl => exact id
      | @up u p w hp _ ih =>
        intro hu
        have hl := hp.2.1.lt hV
        refine ih (.col hu (by simpa using hl.1) ?_)
        have e : ((List.range adj.length).map (colV adj))[u]'(by simpa using hl.1) = colV adj u := by simp
        rw [e]
        exact mem_colV.2 ⟨hl.2, .inr ⟨hp.1, hp.fill⟩⟩
    exact key h (.given (by simp))

theorem SymbolicSolve_true (n : Int) (l b : List Int) : d_sparselaw20q_SymbolicSolve (n, l, b, ()) = some (true, ()) := by
  classical
  rw [← Ok.eq_iff]
  unfold d_sparselaw20q_SymbolicSolve
  simp only [Ok.bind_iff]
  have hlim : lim = 4294967296 := rfl
  refine Ok.mono (P := fun q => (∃ c, q = (c, ())) ∧ (q.1 = false → l.length ≤ 80 ∧ b.length ≤ 10)) ?_ ?_
  · simp only [Ok.bif_iff, Ok.some_iff]
    simp
    omega
  rintro _ ⟨⟨c, rfl⟩, hcf⟩
  simp only [Ok.bif_iff, Ok.bind_iff, Ok.some_iff, awake20, Place_eq n 12 (by omega) (by omega)]
  refine ⟨fun _ => trivial, fun hc0 => ?_⟩
  obtain ⟨hl, hbl⟩ := hcf hc0
  have hp := placeV_lt n 12 (by omega)
  have hw : IntKind.i64.wrap (1 + placeV n 12) = 1 + placeV n 12 := wrap64 (by omega) (by omega)
  rw [hw]
  obtain ⟨m, hm⟩ : ∃ m : Nat, 1 + placeV n 12 = (m : Int) := ⟨(1 + placeV n 12).toNat, by omega⟩
  rw [hm]
  refine (Graph_ok m l (by omega) (by omega)).mono ?_
  rintro ⟨⟨adj, _⟩, _⟩ ⟨hal, hV, hrow⟩
  simp only at hal hV hrow
  have hc : ∀ l ∈ adj, l.length < 4611686018427387904 := fun l h => by have := hrow l h; omega
  simp only [refColumns_eq hV hc (by omega), Ok.some_iff]
  refine (Parent_ok adj hc (by omega) hV).mono ?_
  rintro ⟨par, e, _⟩ ⟨he, hF⟩
  simp only at he hF
  subst he
  have hpl := hF.len
  simp only
  -- the given elements
  refine Ok.mono (P := fun q => q.1.length = b.length ∧ ∀ x ∈ q.1, 0 ≤ x ∧ x < (m : Int)) ?_ ?_
  · refine Ok.for (i0 := 0) b.length (fun k t => t.1.length = k ∧ ∀ x ∈ t.1, 0 ≤ x ∧ x < (m : Int)) rfl ⟨rfl, by simp⟩ (Nat.zero_le _) ?_ ?_
    · rintro k ⟨r, _⟩ _ hk ⟨h1, h2⟩
      simp only at h1 h2
      simp only [Ok.bif_iff, Ok.bind_iff, Ok.getN_iff, Place_eq _ (m : Int) (by omega) (by omega), Ok.some_iff, Ok.limO_iff]
      refine ⟨fun _ => ⟨hk, by simp; omega, wrap_succ (by omega), by simp [h1], fun x hx => ?_⟩, fun hf => by simp at hf; omega⟩
      rcases List.mem_append.1 hx with hx | hx
      · exact h2 x hx
      · rw [List.mem_singleton.1 hx]
        exact placeV_lt _ _ (by omega)
    · rintro ⟨r, _⟩ h
      simp only [Ok.bif_iff, Ok.some_iff]
      exact ⟨fun hf => by simp at hf, fun _ => h⟩
  rintro ⟨rhs, _⟩ ⟨hrl, hrr⟩
  simp only at hrl hrr
  have hCl : ((List.range adj.length).map (colV adj)).length = m := by simp [hal]
  have hcolOk := colV_ok hV
  have hb1 : ∀ i, (colV adj i).length ≤ 12 := fun i => by have := colK_length adj i adj.length; unfold colV; omega
  have hCc : ∀ x ∈ (List.range adj.length).map (colV adj), x.length < 4611686018427387904 := fun x hx => by
    simp only [List.mem_map] at hx
    obtain ⟨i, _, rfl⟩ := hx
    have := hb1 i; omega
  have hCe : ∀ i : Nat, i < m → getI ((List.range adj.length).map (colV adj)) (i : Int) = some (colV adj i) := fun i hi => getN_some (by simp [hal, hi])
  have hCg : ∀ y, (h : y < ((List.range adj.length).map (colV adj)).length) → ((List.range adj.length).map (colV adj))[y] = colV adj y := fun y h => by simp
  have hanc : ∀ v x : Nat, v < adj.length → (Rch ((List.range adj.length).map (colV adj)) [(v : Int)] x ↔ Anc (Nb adj) v x) := fun v x hv => Rch_anc hV hv
  generalize (List.range adj.length).map (colV adj) = C at hCl hcolOk hCc hCe hCg hanc
  obtain ⟨r, hr1, hr2, hr3, hr4, hr5⟩ := reachV_ok (cols := C) (b := rhs) (by omega) hcolOk (fun x hx => by rw [hCl]; exact hrr x hx)
  have hra : decide (r.Pairwise (· < ·)) = true := decide_eq_true hr2
  simp only [Reach_eq C rhs hCc (by omega), hr1, Option.bind_some, bne_self_eq_false, beq_self_eq_true, Ok.bif_iff, Ok.bind_iff, Ascending_eq r (by omega), hra, Ok.some_iff]
  have f1 : ((par.length : Nat) : Int) = (m : Int) := by omega
  rw [f1]
  simp only [bne_self_eq_false, beq_self_eq_true, Bool.not_true]
  refine ⟨fun _ => ⟨fun _ => ⟨fun _ => ⟨(fun h => by cases h), fun _ => ?_⟩, fun h => by cases h⟩, fun h => by cases h⟩, fun h => by cases h⟩
  -- the given ones are reached
  refine Ok.mono (P := fun q => q = .inl (rhs, ())) ?_ ?_
  · refine Ok.for (i0 := 0) rhs.length (fun _ t => t.1 = rhs) rfl rfl (Nat.zero_le _) ?_ ?_
    · rintro k ⟨t, _⟩ _ hk ht
      simp only at ht
      subst ht
      have hx := hrr _ (List.getElem_mem hk)
      obtain ⟨v, hv⟩ : ∃ v : Nat, t[k] = (v : Int) := ⟨t[k].toNat, by omega⟩
      have hin : decide (t[k] ∈ r) = true := by
        rw [hv, decide_eq_true_eq, hr5 v (by omega)]
        exact .given (hv ▸ List.getElem_mem hk)
      simp only [Ok.bif_iff, Ok.bind_iff, Ok.idxN_iff, Ok.atO_iff, Ok.some_iff, In_eq r _ (show r.length < 4611686018427387904 by omega), Int.toNat_natCast, hin, Bool.not_true]
      exact ⟨fun _ => ⟨⟨by omega, hk⟩, hk, (fun h => by cases h), fun _ => ⟨wrap_succ (by omega), trivial⟩⟩, fun hf => by simp at hf; omega⟩
    · rintro ⟨t, _⟩ ht
      simp only at ht
      subst ht
      simp only [Ok.bif_iff, Ok.some_iff]
      exact ⟨fun hf => by simp at hf, fun _ => trivial⟩
  rintro _ rfl
  simp only [Ok.bind_iff]
  -- what is reached is given or in a column, and its column is reached
  refine Ok.mono (P := fun q => q = .inl (rhs, ())) ?_ ?_
  · refine Ok.for (i0 := 0) r.length (fun _ t => t.1 = rhs) rfl rfl (Nat.zero_le _) ?_ ?_
    · rintro k ⟨t, _⟩ _ hk ht
      simp only at ht
      subst ht
      obtain ⟨v, hv, hvm⟩ := hr4 _ (List.getElem_mem hk)
      have hRv : Rch C t v := (hr5 v hvm).1 (hv ▸ List.getElem_mem hk)
      have hgk : getI r (k : Int) = some (v : Int) := getN_some (by rw [List.getElem?_eq_getElem hk, hv])
      have e1 : decide ((v : Int) < 0) = false := by simp
      have e2 : decide ((v : Int) ≥ (m : Int)) = false := by simp; omega
      have g3 := hb1 v
      simp only [Ok.bif_iff (b := decide _)]
      refine ⟨fun _ => ?_, fun hf => by simp at hf; omega⟩
      simp only [hgk, Option.bind_some, e1, e2, beq_self_eq_true, cond_true, cond_false, In_eq t _ (show t.length < 4611686018427387904 by omega), hCe v (by omega)]
      simp only [Ok.bind_iff]
      refine Ok.mono (P := fun q => q = (true, t, ())) ?_ ?_
      · refine Ok.count (fun s => s.2.1) k (fun i s => s.2.2.1 = t ∧ (s.1 = true ∨ ((v : Int) ∉ t ∧ ∀ i', i' < i → (h : i' < r.length) → ∀ w : Nat, r[i'] = (w : Int) → (v : Int) ∉ colV adj w))) (i0 := 0) rfl ⟨rfl, ?_⟩ (Nat.zero_le _) ?_ ?_
        · by_cases h : (v : Int) ∈ t
          · exact .inl (decide_eq_true h)
          · exact .inr ⟨h, fun i' h => by omega⟩
        · rintro i ⟨is, i', t', _⟩ _ hi e ⟨h1, h2⟩
          simp only at e h1 h2
          subst e h1
          have hir : i < r.length := by omega
          obtain ⟨w, hw, hwm⟩ := hr4 _ (List.getElem_mem hir)
          have hgi : getI r (i : Int) = some (w : Int) := getN_some (by rw [List.getElem?_eq_getElem hir, hw])
          have g4 := hb1 w
          simp only [Ok.bif_iff, Ok.bind_iff, hgi, hgk, hCe w (by omega), In_eq (colV adj w) _ (show (colV adj w).length < 4611686018427387904 by omega), Ok.some_iff]
          refine ⟨fun _ => ⟨fun hf => ⟨wrap_succ (by omega), trivial, ?_⟩, fun ht => ⟨wrap_succ (by omega), trivial, .inl trivial⟩⟩, fun hf => by simp at hf; omega⟩
          have hf : is = false := by simpa using hf
          subst hf
          by_cases hm2 : (v : Int) ∈ colV adj w
          · exact .inl (decide_eq_true hm2)
          · refine .inr ⟨(h2.resolve_left (by simp)).1, fun i' hi' h w' hw' => ?_⟩
            rcases Nat.lt_or_ge i' i with h3 | h3
            · exact (h2.resolve_left (by simp)).2 i' h3 h w' hw'
            · obtain rfl : i' = i := by omega
              obtain rfl : w' = w := by omega
              exact hm2
        · rintro ⟨is, i', t', _⟩ e ⟨h1, h2⟩
          simp only at e h1 h2
          subst e h1
          simp only [Ok.bif_iff, Ok.some_iff]
          refine ⟨fun hf => by simp at hf, fun _ => ?_⟩
          rcases h2 with h2 | ⟨h2, h3⟩
          · rw [h2]
          · exfalso
            rcases hRv.first hcolOk with h | ⟨y, h4, h5, h6, h7⟩
            · exact h2 h
            · have hyr := (hr5 y h6).2 h5
              obtain ⟨i', hi', e'⟩ := List.mem_iff_getElem.1 hyr
              have : i' < k := by
                rcases Nat.lt_trichotomy i' k with h | h | h
                · exact h
                · subst h; omega
                · have := (List.pairwise_iff_getElem.1 hr2) k i' hk hi' h; omega
              rw [hCg] at h7
              exact h3 i' this hi' y e' h7
      · rintro _ rfl
        simp only [Bool.not_true, cond_false, Ok.bind_iff]
        refine Ok.mono (P := fun q => q = .inl (t, ())) ?_ (by rintro _ rfl; simp only [Ok.some_iff]; exact ⟨wrap_succ (by omega), trivial⟩)
        refine Ok.for (i0 := 0) (colV adj v).length (fun _ u => u.1 = t) rfl rfl (Nat.zero_le _) ?_ ?_
        · rintro i ⟨t', _⟩ _ hi ht
          simp only at ht
          subst ht
          have hcm : (colV adj v)[i] ∈ C[v] := by rw [hCg]; exact List.getElem_mem hi
          have hx := (hcolOk v hvm).ge _ hcm
          obtain ⟨x, hxe⟩ : ∃ x : Nat, (colV adj v)[i] = (x : Int) := ⟨((colV adj v)[i]).toNat, by omega⟩
          have hin : decide ((colV adj v)[i] ∈ r) = true := by
            rw [hxe, decide_eq_true_eq, hr5 x (by omega)]
            exact .col hRv hvm (hxe ▸ hcm)
          simp only [Ok.bif_iff, Ok.bind_iff, Ok.getN_iff, In_eq r _ (show r.length < 4611686018427387904 by omega), Ok.some_iff, hin, Bool.not_true]
          exact ⟨fun _ => ⟨hi, (fun h => by cases h), fun _ => ⟨wrap_succ (by omega), trivial⟩⟩, fun hf => by simp at hf; omega⟩
        · rintro ⟨t', _⟩ ht
          simp only at ht
          subst ht
          simp only [Ok.bif_iff, Ok.some_iff]
          exact ⟨fun hf => by simp at hf, fun _ => trivial⟩
    · rintro ⟨t, _⟩ ht
      simp only at ht
      subst ht
      simp only [Ok.bif_iff, Ok.some_iff]
      exact ⟨fun hf => by simp at hf, fun _ => trivial⟩
  rintro _ rfl
  simp only [Ok.bind_iff]
  -- the way up
  refine Ok.mono (P := fun q => ∃ v : Nat, q = ((v : Int), ()) ∧ v < m) ?_ ?_
  · have hw1 : IntKind.i64.wrap ((m : Int) - 1) = ((m - 1 : Nat) : Int) := by rw [wrap64 (by omega) (by omega)]; omega
    simp only [Ok.bif_iff, Ok.bind_iff, Ok.idxN_iff, Ok.atO_iff, Ok.some_iff, hw1]
    refine ⟨fun h => ?_, fun h => ⟨m - 1, rfl, by omega⟩⟩
    have h : 0 < rhs.length := by
      simp at h
      omega
    refine ⟨⟨by omega, h⟩, h, ?_⟩
    have := hrr _ (List.getElem_mem h)
    exact ⟨(rhs[0]).toNat, by simp only [Prod.mk.injEq, and_true]; exact (Int.toNat_of_nonneg this.1).symm, by omega⟩
  rintro _ ⟨v, rfl, hvm⟩
  simp only
  obtain ⟨o, ho1, ho2, ho3, ho4, ho5⟩ := reachV_ok (cols := C) (b := [(v : Int)]) (by omega) hcolOk (fun x hx => by rw [List.mem_singleton.1 hx]; omega)
  simp only [Reach_eq C [(v : Int)] hCc (by simp), ho1, Ok.some_iff]
  refine Ok.mono (P := fun q => q.1 = o) ?_ ?_
  · refine Ok.loop (fun s => s.2.1.Pairwise (· < ·) ∧ (∀ x ∈ s.2.1, ∃ u : Nat, x = (u : Int) ∧ Anc (Nb adj) v u ∧ u < m) ∧
        ((s.1 = -1 ∧ ∀ u : Nat, Anc (Nb adj) v u → (u : Int) ∈ s.2.1) ∨ ∃ w : Nat, s.1 = (w : Int) ∧ w < m ∧ Anc (Nb adj) v w ∧ (∀ x ∈ s.2.1, x < (w : Int)) ∧ s.2.1.length ≤ w ∧ ∀ u : Nat, Anc (Nb adj) v u → (u : Int) ∈ s.2.1 ∨ Anc (Nb adj) w u))
      (fun s => if s.1 = -1 then 0 else 1000 - s.1.toNat) ⟨by simp, by simp, .inr ⟨v, rfl, hvm, .refl _, by simp, by simp, fun u h => .inr h⟩⟩ ?_
    rintro ⟨x, up, _⟩ ⟨h1, h2, h3⟩
    simp only at h1 h2 h3
    rcases h3 with ⟨rfl, h3⟩ | ⟨w, rfl, h3, h4, h5, h6, h7⟩
    · simp only [Ok.bif_iff, Ok.bind_iff, Ok.some_iff]
      refine ⟨fun hf => by simp at hf, fun _ => ?_⟩
      refine sorted_ext h1 ho2 fun x => ⟨fun hx => ?_, fun hx => ?_⟩
      · obtain ⟨u, rfl, h4, h5⟩ := h2 x hx
        exact (ho5 u (by omega)).2 ((hanc v u (by omega)).2 h4)
      · obtain ⟨u, rfl, h4⟩ := ho4 x hx
        exact h3 u ((hanc v u (by omega)).1 ((ho5 u h4).1 hx))
    · have e1 : decide ((w : Int) ≥ 0) = true := by simp
      have e2 : decide ((w : Int) < (m : Int)) = true := by simp; omega
      have e3 : decide ((((up.length : Nat)) : Int) ≤ (m : Int)) = true := by simp; omega
      have hwp : w < par.length := by omega
      simp only [e1, e2, e3, beq_self_eq_true, cond_true, Option.bind_some, Ok.bind_iff, Ok.limO_iff, Ok.getN_iff, Ok.some_iff]
      refine ⟨by simp; omega, hwp, ⟨?_, ?_, ?_⟩, ?_⟩
      · rw [List.pairwise_append]
        exact ⟨h1, by simp, fun a ha c hc => by rw [List.mem_singleton.1 hc]; exact h5 a ha⟩
      · intro x hx
        rcases List.mem_append.1 hx with hx | hx
        · exact h2 x hx
        · exact ⟨w, List.mem_singleton.1 hx, h4, h3⟩
      · have hgw : par[w]? = some par[w] := List.getElem?_eq_getElem hwp
        rcases hF.none w _ hgw with e | ⟨p, e⟩
        · refine .inl ⟨e, fun u hu => ?_⟩
          rcases h7 u hu with h | h
          · exact List.mem_append_left _ h
          · cases h with
            | refl => exact List.mem_append_right _ (by simp)
            | @up _ p _ hp _ =>
              have := (hF.parI w p).2 hp
              rw [hgw, e] at this
              have := Option.some.inj this
              omega
        · have hp := (hF.parI w p).1 (by rw [hgw, e])
          have hpl2 := hp.2.1.lt hV
          refine .inr ⟨p, e, by omega, h4.trans (.up hp (.refl _)), fun x hx => ?_, by have := hp.1; simp; omega, fun u hu => ?_⟩
          · have := hp.1
            rcases List.mem_append.1 hx with hx | hx
            · have := h5 x hx; omega
            · rw [List.mem_singleton.1 hx]; omega
          · rcases h7 u hu with h | h
            · exact .inl (List.mem_append_left _ h)
            · cases h with
              | refl => exact .inl (List.mem_append_right _ (by simp))
              | @up _ q _ hq hr =>
                obtain rfl := hp.uniq hq
                exact .inr hr
      · have hgw : par[w]? = some par[w] := List.getElem?_eq_getElem hwp
        rcases hF.none w _ hgw with e | ⟨p, e⟩
        · rw [if_pos e, if_neg (by omega)]; omega
        · have hp := ((hF.parI w p).1 (by rw [hgw, e])).1
          rw [e, if_neg (by omega), if_neg (by omega)]; omega
  · rintro ⟨up, _⟩ h
    simp only at h
    subst h
    simp [Ints_eq up up (show up.length < 4611686018427387904 by omega), Ok.bif_iff, Ok.bind_iff, Ok.some_iff, awake20]
end Go.Fw
