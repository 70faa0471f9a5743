/-
  The plain laws, part 15: the law SymbolicPaths on the pure programs.
-/
import Derived.Test.YtlalecmgnaoiiaaPl14
set_option linter.unusedSimpArgs false
set_option linter.unusedVariables false
namespace Go.Fw

theorem PathN.cons {A : Nat → Nat → Prop} {u m v k : Nat} (h : A u m) (hp : PathN A m k v) : PathN A u (k + 1) v := by
  induction hp with
  | zero => exact .succ .zero h
  | succ _ ha ih => exact .succ ih ha

theorem path_iff {adj : List (List Int)} {l : List Int} (hV : Valid adj) (hl : ∀ x ∈ l, 0 ≤ x ∧ x < (adj.length : Int)) (hd : l.Nodup) {i j : Nat} (hij : i ≠ j)
    (hm : ∀ v : Nat, (v : Int) ∈ l ↔ v < adj.length ∧ (v < j ∨ v = i ∨ v = j)) {a b : Nat} (ha : l[a]? = some (i : Int)) (hb : l[b]? = some (j : Int)) :
    (∃ k, PathN (Nb (fromT (indT adj l))) a k b) ↔ Walk (Nb adj) j i j := by
  constructor
  · rintro ⟨k, h⟩
    have key : ∀ {k c : Nat}, PathN (Nb (fromT (indT adj l))) a k c → ∀ w : Nat, l[c]? = some (w : Int) → w = i ∨ Walk (Nb adj) j i w ∨ Walk (Nb adj) j i j := by
      intro k c h
      induction h with
      | zero => intro w hw; rw [ha] at hw; left; have := Option.some.inj hw; omega
      | @succ k m v hp hn ih =>
        intro w hw
        obtain ⟨h1, h2, h3⟩ := (Nb_ind hV hl hd).1 hn
        rw [List.getElem?_eq_getElem h2] at hw
        have e2 : (l[v]).toNat = w := by rw [Option.some.inj hw]; rfl
        have r1 := hl _ (List.getElem_mem h1)
        obtain ⟨x, hx⟩ : ∃ x : Nat, l[m] = (x : Int) := ⟨(l[m]).toNat, by omega⟩
        rw [e2, hx, Int.toNat_natCast] at h3
        have hxl : (x : Int) ∈ l := hx ▸ List.getElem_mem h1
        rcases ih x (by rw [List.getElem?_eq_getElem h1, hx]) with h | h | h
        · subst h; exact .inr (.inl (.one h3))
        · rcases ((hm x).1 hxl).2 with h4 | h4 | h4
          · exact .inr (.inl (h.trans h4 (.one h3)))
          · subst h4; exact .inr (.inl (.one h3))
          · subst h4; exact .inr (.inr h)
        · exact .inr (.inr h)
    rcases key h j hb with h | h | h
    · exact absurd h.symm hij
    · exact h
    · exact h
  · intro h
    have key : ∀ {u w : Nat}, Walk (Nb adj) j u w → ∀ a b : Nat, l[a]? = some (u : Int) → l[b]? = some (w : Int) → ∃ k, PathN (Nb (fromT (indT adj l))) a k b := by
      intro u w h
      have get : ∀ {a u : Nat}, l[a]? = some (u : Int) → ∃ h : a < l.length, (l[a]).toNat = u := fun {a u} e => by
        obtain ⟨h, e⟩ := List.getElem?_eq_some_iff.1 e
        exact ⟨h, by rw [e]; rfl⟩
      induction h with
      | one h =>
        intro a b h1 h2
        obtain ⟨g1, g2⟩ := get h1
        obtain ⟨g3, g4⟩ := get h2
        exact ⟨1, .succ .zero ((Nb_ind hV hl hd).2 ⟨g1, g3, by rw [g2, g4]; exact h⟩)⟩
      | @step u m w h hk _ ih =>
        intro a b h1 h2
        obtain ⟨g1, g2⟩ := get h1
        have hml : (m : Int) ∈ l := (hm m).2 ⟨(h.lt hV).2, .inl hk⟩
        obtain ⟨c, hc, e⟩ := List.mem_iff_getElem.1 hml
        obtain ⟨k, hp⟩ := ih c b (by rw [List.getElem?_eq_getElem hc, e]) h2
        refine ⟨k + 1, .cons ((Nb_ind hV hl hd).2 ⟨g1, hc, ?_⟩) hp⟩
        rw [g2, e]; exact h
    exact key h a b ha hb

theorem pairwise_nodup {l : List Int} (h : l.Pairwise (· < ·)) : l.Nodup := h.imp (fun h => by omega)

open Classical in
theorem path_eq {adj : List (List Int)} (hV : Valid adj) (hc : ∀ l ∈ adj, l.length < 4611686018427387904) (hn : adj.length ≤ 200) {i j : Nat} (hi : i < adj.length) (hj : j < adj.length) (hij : i ≠ j) :
    d_sparselaw20q_path ((adj, ()), (i : Int), (j : Int), (j : Int), ()) = some (decide (Walk (Nb adj) j i j), ()) := by
  rw [← Ok.eq_iff]
  unfold d_sparselaw20q_path
  have hlim : lim = 4294967296 := rfl
  simp only [Ok.bind_iff]
  generalize hpl : (fun v : Nat => decide (v < j ∨ v = i ∨ v = j)) = p
  have hp : ∀ v, p v = decide (v < j ∨ v = i ∨ v = j) := fun v => by rw [← hpl]
  refine Ok.mono (P := fun q => q.1 = ((List.range adj.length).filter p).map fun (v : Nat) => (v : Int)) ?_ ?_
  · refine Ok.for (i0 := 0) adj.length (fun k t => t.1 = ((List.range k).filter p).map fun (v : Nat) => (v : Int)) rfl rfl (Nat.zero_le _) ?_ ?_
    · rintro v ⟨l, _⟩ _ hv hl
      simp only at hl
      rw [Ok.bif_iff]
      refine ⟨fun _ => ?_, fun hf => by simp at hf; omega⟩
      rw [Ok.bind_iff, Ok.bind_iff]
      have hll : l.length ≤ v := by
        rw [hl, List.length_map]
        exact Nat.le_trans (List.length_filter_le _ _) (by simp)
      refine Ok.mono (P := fun q => q = (p v, l, ())) ?_ ?_
      · simp only [Ok.bif_iff, Ok.some_iff, hp]
        refine ⟨fun h1 => ⟨fun h2 => ?_, fun h2 => ?_⟩, fun h1 => ?_⟩
        · have h1 : ¬ v < j := by simp at h1; omega
          have h2 : ¬ v = i := by simp at h2; omega
          simp only [h1, h2, false_or, Prod.mk.injEq, and_true]
          by_cases h3 : v = j
          · simp [h3]
          · have : ¬ (v : Int) = (j : Int) := by omega
            simp [h3, this]
        · have h2 : v = i := by simp at h2; omega
          simp [h2]
        · have h1 : v < j := by simp at h1; omega
          simp [h1]
      · rintro _ rfl
        simp only [Ok.bif_iff, Ok.bind_iff, Ok.some_iff, Ok.limO_iff]
        refine ⟨fun h => ⟨by simp; omega, wrap_succ (by omega), ?_⟩, fun h => ⟨wrap_succ (by omega), ?_⟩⟩
        · rw [List.range_succ, List.filter_append, List.map_append, ← hl]; simp [h]
        · rw [List.range_succ, List.filter_append, List.map_append, ← hl]; simp [h]
    · rintro ⟨l, _⟩ hl
      simp only at hl
      simp only [Ok.bif_iff, Ok.some_iff]
      exact ⟨fun hf => by simp at hf, fun _ => hl⟩
  rintro ⟨l, _⟩ hl
  simp only at hl
  have hmem : ∀ v : Nat, (v : Int) ∈ l ↔ v < adj.length ∧ (v < j ∨ v = i ∨ v = j) := by
    intro v
    rw [hl]
    simp only [List.mem_map, List.mem_filter, List.mem_range, hp, decide_eq_true_eq]
    constructor
    · rintro ⟨a, h, e⟩
      obtain rfl : a = v := by omega
      exact h
    · exact fun h => ⟨v, h, rfl⟩
  have hrng : ∀ x ∈ l, 0 ≤ x ∧ x < (adj.length : Int) := by
    intro x hx
    rw [hl] at hx
    simp only [List.mem_map, List.mem_filter, List.mem_range] at hx
    obtain ⟨a, ⟨h1, _⟩, rfl⟩ := hx
    omega
  have hll : l.length ≤ adj.length := by
    rw [hl, List.length_map]
    exact Nat.le_trans (List.length_filter_le _ _) (by simp)
  have hs : l.Pairwise (· < ·) := hl ▸ sorted_filter _ _
  have hd : l.Nodup := pairwise_nodup hs
  simp only [Induced_eq hV hc hn hrng hd (by omega), Ok.some_iff]
  obtain ⟨a, ha, ea⟩ := List.mem_iff_getElem.1 ((hmem i).2 ⟨hi, .inr (.inl rfl)⟩)
  obtain ⟨b, hb, eb⟩ := List.mem_iff_getElem.1 ((hmem j).2 ⟨hj, .inr (.inr rfl)⟩)
  have uniq : ∀ k k' : Nat, (h : k < l.length) → (h' : k' < l.length) → l[k] = l[k'] → k = k' := fun k k' h h' e => by
    rcases Nat.lt_trichotomy k k' with g | g | g
    · have := (List.pairwise_iff_getElem.1 hs) k k' h h' g; omega
    · exact g
    · have := (List.pairwise_iff_getElem.1 hs) k' k h' h g; omega
  have hH : (fromT (indT adj l)).length = l.length := by rw [fromT_length, indT_length]
  have hHc : ∀ x ∈ fromT (indT adj l), x.length < 4611686018427387904 := fun x hx => by have := fromT_lines _ x hx; rw [indT_length] at this; omega
  refine Ok.mono (P := fun q => q.1 = (a : Int) ∧ q.2.1 = (b : Int) ∧ q.2.2.1 = (fromT (indT adj l), ())) ?_ ?_
  · refine Ok.count (fun s => s.2.2.1) l.length (fun k s => s.2.2.2.1 = l ∧ s.2.2.2.2.1 = (fromT (indT adj l), ()) ∧ (a < k → s.1 = (a : Int)) ∧ (b < k → s.2.1 = (b : Int))) (i0 := 0) rfl ⟨rfl, rfl, fun h => by omega, fun h => by omega⟩ (Nat.zero_le _) ?_ ?_
    · rintro k ⟨a', b', k', l', h', _⟩ _ hk e ⟨h1, h2, h3, h4⟩
      simp only at e h1 h2 h3 h4
      subst e h1 h2
      simp only [Ok.bif_iff, Ok.bind_iff, Ok.idxN_iff, Ok.atO_iff, Ok.some_iff, Int.toNat_natCast]
      have ca : (l'[k] == (i : Int)) = true → k = a := fun h => uniq k a hk ha (by rw [ea]; simpa using h)
      have cb : (l'[k] == (j : Int)) = true → k = b := fun h => uniq k b hk hb (by rw [eb]; simpa using h)
      have na : (l'[k] == (i : Int)) = false → k ≠ a := fun h e => by subst e; rw [ea] at h; simp at h
      have nb : (l'[k] == (j : Int)) = false → k ≠ b := fun h e => by subst e; rw [eb] at h; simp at h
      refine ⟨fun _ => ⟨⟨by omega, hk⟩, hk, fun g1 => ⟨⟨by omega, hk⟩, hk, fun g2 => ⟨wrap_succ (by omega), trivial, trivial, fun _ => ?_, fun _ => ?_⟩, fun g2 => ⟨wrap_succ (by omega), trivial, trivial, fun _ => ?_, fun _ => ?_⟩⟩, fun g1 => ⟨⟨by omega, hk⟩, hk, fun g2 => ⟨wrap_succ (by omega), trivial, trivial, fun _ => ?_, fun _ => ?_⟩, fun g2 => ⟨wrap_succ (by omega), trivial, trivial, fun _ => ?_, fun _ => ?_⟩⟩⟩, fun hf => by simp at hf; omega⟩
      · rw [ca g1]
      · rw [cb g2]
      · rw [ca g1]
      · exact h4 (by have := nb g2; omega)
      · exact h3 (by have := na g1; omega)
      · rw [cb g2]
      · exact h3 (by have := na g1; omega)
      · exact h4 (by have := nb g2; omega)
    · rintro ⟨a', b', k', l', h', _⟩ e ⟨h1, h2, h3, h4⟩
      simp only at e h1 h2 h3 h4
      subst e h1 h2
      simp only [Ok.bif_iff, Ok.some_iff]
      exact ⟨fun hf => by simp at hf, fun _ => ⟨h3 ha, h4 hb, trivial⟩⟩
  · rintro ⟨a', b', h', _⟩ ⟨h1, h2, h3⟩
    simp only at h1 h2 h3
    subst h1 h2 h3
    simp only
    refine (Levels_ok (fromT_valid (indT adj l)) hHc (by omega) (root := a) (by omega)).mono ?_
    rintro ⟨lev, _⟩ ⟨K, hKn, hlev, hne, hK⟩
    simp only at hlev
    subst hlev
    -- is b reached?
    have hreach : (∃ k, k < K ∧ (b : Int) ∈ levV (fromT (indT adj l)) a k) ↔ Walk (Nb adj) j i j := by
      rw [← path_iff hV hrng hd hij hmem (a := a) (b := b) (by rw [List.getElem?_eq_getElem ha, ea]) (by rw [List.getElem?_eq_getElem hb, eb])]
      constructor
      · rintro ⟨k, _, h⟩
        exact ⟨k, ((mem_levV (fromT_valid _) (by omega)).1 h).1⟩
      · rintro ⟨k, h⟩
        obtain ⟨k', _, h2⟩ := AtK.exists h
        refine ⟨k', ?_, (mem_levV (fromT_valid _) (by omega)).2 h2⟩
        rcases Nat.lt_or_ge k' K with h3 | h3
        · exact h3
        · have hno : ∀ v, ¬ AtK (Nb (fromT (indT adj l))) a K v := fun v hv => by
            have := (mem_levV (fromT_valid _) (show a < (fromT (indT adj l)).length by omega)).2 hv
            rw [hK] at this
            cases this
          have := AtK.empty hno (k' - K) b
          rw [show K + (k' - K) = k' by omega] at this
          exact absurd h2 this
    have hKb : K ≤ 4611686018427387904 := by omega
    have hlv : ∀ k : Nat, k < K → getI ((List.range K).map (levV (fromT (indT adj l)) a)) (k : Int) = some (levV (fromT (indT adj l)) a k) := fun k hk => getN_some (by simp [hk])
    have hlen : ((List.range K).map (levV (fromT (indT adj l)) a)).length = K := by simp
    generalize (List.range K).map (levV (fromT (indT adj l)) a) = lev at hlv hlen
    refine Ok.mono (P := fun q => (q = .inl () ∧ ¬ Walk (Nb adj) j i j) ∨ (q = .inr (true, ()) ∧ Walk (Nb adj) j i j)) ?_ ?_
    · refine Ok.for (i0 := 0) K (fun k _ => ∀ k', k' < k → (b : Int) ∉ levV (fromT (indT adj l)) a k') rfl (fun k' h => by omega) (Nat.zero_le _) ?_ ?_
      · rintro k _ _ hk hI
        have hl3 := levV_length (fromT (indT adj l)) a k
        simp only [Ok.bif_iff, Ok.bind_iff, hlv k hk, Ok.some_iff, In_eq _ _ (show (levV (fromT (indT adj l)) a k).length < 4611686018427387904 by omega)]
        refine ⟨fun _ => ⟨fun h => .inr ⟨trivial, hreach.1 ⟨k, hk, of_decide_eq_true h⟩⟩, fun h => ⟨wrap_succ (by omega), fun k' hk' => ?_⟩⟩, fun hf => by simp at hf; omega⟩
        rcases Nat.lt_or_ge k' k with h2 | h2
        · exact hI k' h2
        · obtain rfl : k' = k := by omega
          exact of_decide_eq_false h
      · rintro _ hI
        simp only [Ok.bif_iff, Ok.some_iff]
        refine ⟨fun hf => by simp at hf; omega, fun _ => .inl ⟨trivial, fun hw => ?_⟩⟩
        obtain ⟨k, hk, h⟩ := hreach.2 hw
        exact hI k hk h
    · rintro _ (⟨rfl, h⟩ | ⟨rfl, h⟩)
      · simp only [Ok.some_iff]; rw [decide_eq_false h]
      · simp only [Ok.some_iff]; rw [decide_eq_true h]

theorem SymbolicPaths_true (n : Int) (l : List Int) : d_sparselaw20q_SymbolicPaths (n, l, ()) = some (true, ()) := by
  classical
  rw [← Ok.eq_iff]
  unfold d_sparselaw20q_SymbolicPaths
  simp only [Ok.bif_iff, Ok.bind_iff, Ok.some_iff, awake20, Place_eq n 9 (by omega) (by omega)]
  refine ⟨fun _ => trivial, fun hl => ?_⟩
  have hl : l.length ≤ 80 := by simp at hl; omega
  have hp := placeV_lt n 9 (by omega)
  obtain ⟨m, hm⟩ : ∃ m : Nat, placeV n 9 = (m : Int) := ⟨(placeV n 9).toNat, by omega⟩
  rw [hm]
  refine (Graph_ok m l (by omega) (by omega)).mono ?_
  rintro ⟨⟨adj, _⟩, _⟩ ⟨hal, hV, hrow⟩
  simp only at hal hV hrow
  have hc : ∀ l ∈ adj, l.length < 4611686018427387904 := fun l h => by have := hrow l h; omega
  simp only [Columns_ok hV hc (by omega), Ok.some_iff]
  have f1 : ((((List.range adj.length).map (colV adj)).length : Nat) : Int) = (m : Int) := by simp; omega
  simp only [f1, bne_self_eq_false, beq_self_eq_true]
  refine ⟨fun _ => ⟨fun h => (by cases h), fun _ => ?_⟩, fun h => (by cases h)⟩
  have hC : ∀ i : Nat, i < adj.length → getI ((List.range adj.length).map (colV adj)) (i : Int) = some (colV adj i) := fun i hi => getN_some (by simp [hi])
  generalize (List.range adj.length).map (colV adj) = C at hC
  have hb1 : ∀ i, (colV adj i).length ≤ 9 := fun i => by have := colK_length adj i adj.length; unfold colV; omega
  refine Ok.mono (P := fun q => q = .inl ()) ?_ (by rintro _ rfl; simp only [Ok.bif_iff, Ok.bind_iff, Ok.some_iff, awake20])
  refine Ok.for (i0 := 0) m (fun _ t => t.1 = (adj, ())) rfl rfl (Nat.zero_le _) ?_ ?_
  · rintro j ⟨g, _⟩ _ hj hg
    simp only at hg
    subst hg
    simp only [Ok.bif_iff, Ok.bind_iff]
    refine ⟨fun _ => ?_, fun hf => by simp at hf; omega⟩
    refine Ok.mono (P := fun q => q = .inl ((adj, ()), ())) ?_ (by rintro _ rfl; simp only [Ok.some_iff]; exact ⟨wrap_succ (by omega), trivial⟩)
    refine Ok.for (i0 := j + 1) m (fun _ t => t.1 = (adj, ())) (wrap_succ (by omega)) rfl (by omega) ?_ ?_
    · rintro i ⟨g, _⟩ hji hi hg
      simp only at hg
      subst hg
      have e3 : decide ((i : Int) ∈ colV adj j) = decide (Walk (Nb adj) j i j) := by
        rw [decide_eq_decide, mem_colV]
        constructor
        · rintro ⟨_, h | ⟨_, h⟩⟩
          · omega
          · exact h.symm (Nb.symm hV)
        · exact fun h => ⟨by omega, .inr ⟨by omega, h.symm (Nb.symm hV)⟩⟩
      have g3 := hb1 j
      simp only [Ok.bif_iff, Ok.bind_iff, hC j (by omega), In_eq (colV adj j) _ (by omega), path_eq hV hc (show adj.length ≤ 200 by omega) (show i < adj.length by omega) (show j < adj.length by omega) (by omega), Ok.some_iff, e3, beq_self_eq_true, Bool.not_true]
      exact ⟨fun _ => ⟨(fun h => by cases h), fun _ => ⟨wrap_succ (by omega), trivial⟩⟩, fun hf => by simp at hf; omega⟩
    · rintro ⟨g, _⟩ hg
      simp only at hg
      subst hg
      simp only [Ok.bif_iff, Ok.some_iff]
      exact ⟨fun hf => by simp at hf, fun _ => trivial⟩
  · rintro ⟨g, _⟩ hg
    simp only [Ok.bif_iff, Ok.some_iff]
    exact ⟨fun hf => by simp at hf, fun _ => trivial⟩
end Go.Fw
