/-
  The plain laws, part 14: the document's levels: breadth first.
-/
import Derived.Test.YtlalecmgnaoiiaaPl13
set_option linter.unusedSimpArgs false
set_option linter.unusedVariables false
namespace Go.Fw

/-- Paths of k steps. -/
inductive PathN (A : Nat → Nat → Prop) (u : Nat) : Nat → Nat → Prop
  | zero : PathN A u 0 u
  | succ {k m v : Nat} : PathN A u k m → A m v → PathN A u (k + 1) v

/-- v is k steps away, and not nearer. -/
def AtK (A : Nat → Nat → Prop) (u k v : Nat) : Prop := PathN A u k v ∧ ∀ k', k' < k → ¬ PathN A u k' v

section
variable {A : Nat → Nat → Prop} {u : Nat}

theorem AtK.exists {k v : Nat} (h : PathN A u k v) : ∃ k', k' ≤ k ∧ AtK A u k' v := by
  have : ∀ n k, k ≤ n → PathN A u k v → ∃ k', k' ≤ k ∧ AtK A u k' v := by
    intro n
    induction n with
    | zero =>
      intro k hk h
      obtain rfl : k = 0 := by omega
      exact ⟨0, Nat.le_refl _, h, fun k' hk' => by omega⟩
    | succ n ih =>
      intro k hk h
      by_cases h2 : ∃ k', k' < k ∧ PathN A u k' v
      · obtain ⟨k', h3, h4⟩ := h2
        obtain ⟨k'', h5, h6⟩ := ih k' (by omega) h4
        exact ⟨k'', by omega, h6⟩
      · exact ⟨k, Nat.le_refl _, h, fun k' h3 h4 => h2 ⟨k', h3, h4⟩⟩
  exact this k k (Nat.le_refl _) h

theorem AtK.pred {k v : Nat} (h : AtK A u (k + 1) v) : ∃ m, AtK A u k m ∧ A m v := by
  obtain ⟨h1, h2⟩ := h
  cases h1 with
  | @succ _ m _ hp ha =>
    refine ⟨m, ⟨hp, fun k' hk' hp' => h2 (k' + 1) (by omega) (.succ hp' ha)⟩, ha⟩

theorem AtK.succ_iff {k v : Nat} : AtK A u (k + 1) v ↔ (∃ m, AtK A u k m ∧ A m v) ∧ ∀ k', k' ≤ k → ¬ PathN A u k' v := by
  constructor
  · intro h
    exact ⟨h.pred, fun k' hk' => h.2 k' (by omega)⟩
  · rintro ⟨⟨m, h1, h2⟩, h3⟩
    exact ⟨.succ h1.1 h2, fun k' hk' => h3 k' (by omega)⟩

/-- Where a level is empty, all later ones are. -/
theorem AtK.empty {k : Nat} (h : ∀ v, ¬ AtK A u k v) : ∀ d v, ¬ AtK A u (k + d) v := by
  intro d
  induction d with
  | zero => exact h
  | succ d ih =>
    intro v hv
    obtain ⟨m, hm, _⟩ := AtK.pred (k := k + d) hv
    exact ih m hm
end

open Classical in
noncomputable def levV (adj : List (List Int)) (root k : Nat) : List Int := ((List.range adj.length).filter fun v => decide (AtK (Nb adj) root k v)).map fun (v : Nat) => (v : Int)

theorem PathN.lt {adj : List (List Int)} (hV : Valid adj) {root k v : Nat} (hr : root < adj.length) (h : PathN (Nb adj) root k v) : v < adj.length := by
  cases h with
  | zero => exact hr
  | succ _ ha => exact (ha.lt hV).2

theorem mem_levV {adj : List (List Int)} (hV : Valid adj) {root k v : Nat} (hr : root < adj.length) : (v : Int) ∈ levV adj root k ↔ AtK (Nb adj) root k v := by
  unfold levV
  simp only [List.mem_map, List.mem_filter, List.mem_range, decide_eq_true_eq]
  constructor
  · rintro ⟨a, ⟨h1, h2⟩, h3⟩
    obtain rfl : a = v := by omega
    exact h2
  · exact fun h => ⟨v, ⟨h.1.lt hV hr, h⟩, rfl⟩
theorem mem_levV' {adj : List (List Int)} {root k : Nat} {x : Int} (h : x ∈ levV adj root k) : ∃ v : Nat, x = (v : Int) ∧ v < adj.length ∧ AtK (Nb adj) root k v := by
  unfold levV at h
  simp only [List.mem_map, List.mem_filter, List.mem_range, decide_eq_true_eq] at h
  obtain ⟨a, ⟨h1, h2⟩, h3⟩ := h
  exact ⟨a, h3.symm, h1, h2⟩

theorem levV_length (adj : List (List Int)) (root k : Nat) : (levV adj root k).length ≤ adj.length := by
  unfold levV
  rw [List.length_map]
  exact Nat.le_trans (List.length_filter_le _ _) (by simp)

theorem filter_single (n r : Nat) (h : r < n) (p : Nat → Bool) (hp : ∀ x, x < n → (p x = true ↔ x = r)) : (List.range n).filter p = [r] := by
  have hs : ((List.range n).filter p).Pairwise (· < ·) := List.Pairwise.filter _ List.pairwise_lt_range
  have hm : ∀ x, x ∈ (List.range n).filter p ↔ x = r := fun x => by
    rw [List.mem_filter, List.mem_range]
    constructor
    · rintro ⟨h1, h2⟩; exact (hp x h1).1 h2
    · rintro rfl; exact ⟨h, (hp x h).2 rfl⟩
  generalize (List.range n).filter p = L at hs hm
  match L, hs, hm with
  | [], _, hm => exact absurd ((hm r).2 rfl) (by simp)
  | [a], _, hm => rw [(hm a).1 (by simp)]
  | a :: b :: _, hs, hm =>
    have h1 := (hm a).1 (by simp)
    have h2 := (hm b).1 (by simp)
    have := (List.pairwise_cons.1 hs).1 b (by simp)
    omega

theorem levV_zero (adj : List (List Int)) (root : Nat) (hr : root < adj.length) : levV adj root 0 = [(root : Int)] := by
  classical
  unfold levV
  rw [filter_single adj.length root hr]
  · rfl
  · intro x hx
    rw [decide_eq_true_eq]
    constructor
    · rintro ⟨h, _⟩; cases h; rfl
    · rintro rfl; exact ⟨.zero, fun k' hk => by omega⟩

/-- What was seen up to step k. -/
def Seen (adj : List (List Int)) (root k : Nat) (seen : List Bool) : Prop := seen.length = adj.length ∧ ∀ v, v < adj.length → (seen[v]? = some true ↔ ∃ k', k' ≤ k ∧ PathN (Nb adj) root k' v)

theorem count_set_true (l : List Bool) (i : Nat) (h : i < l.length) (hf : l[i] = false) : (l.set i true).count false + 1 = l.count false := by
  rw [List.count_set h, hf]
  have : 0 < l.count false := List.count_pos_iff.2 (hf ▸ List.getElem_mem h)
  simp
  omega

open Classical in
theorem Levels_ok {adj : List (List Int)} (hV : Valid adj) (hc : ∀ l ∈ adj, l.length < 4611686018427387904) (hn : adj.length ≤ 200) {root : Nat} (hr : root < adj.length) :
    Ok (d_sparseref12q_Levels ((adj, ()), (root : Int), ())) (fun r => ∃ K, K ≤ adj.length ∧ r.1 = (List.range K).map (levV adj root) ∧ (∀ k, k < K → levV adj root k ≠ []) ∧ levV adj root K = []) := by
  unfold d_sparseref12q_Levels
  have hlim : lim = 4294967296 := rfl
  have hchk : chk adj = 0 := by unfold chk; rw [if_neg (by omega), if_pos hV]
  have e1 : decide ((root : Int) < 0) = false := by simp
  have e2 : decide ((root : Int) ≥ (adj.length : Int)) = false := by simp; omega
  simp only [refCheck_eq adj hc, hchk, e1, e2, Option.bind_some, bne_self_eq_false, beq_self_eq_true, cond_true, cond_false]
  simp only [Ok.bind_iff, Ok.madeO_iff, Ok.idxN_iff, Ok.atO_iff, Ok.some_iff, Int.toNat_natCast, List.length_replicate]
  refine ⟨⟨by omega, by omega, by omega⟩, ⟨by omega, hr⟩, hr, ?_⟩
  refine Ok.loop (fun s => ∃ k, s.1 = levV adj root k ∧ Seen adj root k s.2.1 ∧ s.2.2.1 = (List.range k).map (levV adj root) ∧ (∀ j, j < k → levV adj root j ≠ []) ∧ k + s.2.1.count false + (if s.1.length = 0 then 0 else 1) ≤ adj.length)
    (fun s => 2 * s.2.1.count false + (if s.1.length = 0 then 0 else 1)) ⟨0, (levV_zero adj root hr).symm, ⟨by simp, fun v hv => ?_⟩, rfl, fun j hj => by omega, ?_⟩ ?_
  · simp only [List.getElem?_set, List.getElem?_replicate, List.length_replicate]
    by_cases h : root = v
    · subst h
      simp [hr]
      exact .zero
    · rw [if_neg h, if_pos hv]
      simp only [Option.some.injEq, Bool.false_eq_true, false_iff]
      rintro ⟨k', hk, hp⟩
      obtain rfl : k' = 0 := by omega
      cases hp
      exact h rfl
  · have := count_set_true (List.replicate adj.length false) root (by simpa using hr) (by simp)
    rw [List.count_replicate_self] at this
    simp only [List.length_singleton]
    rw [if_neg (by omega)]
    omega
  · rintro ⟨level, seen, out, _⟩ ⟨k, hlev, hseen, hout, hne, hkn⟩
    simp only at hlev hseen hout hkn
    simp only [Ok.bif_iff, Ok.bind_iff, Ok.some_iff, Ok.limO_iff, Ok.madeO_iff, Int.toNat_natCast]
    refine ⟨fun hpos => ?_, fun hz => ⟨k, by omega, hout, hne, ?_⟩⟩
    rotate_left
    · rw [← hlev]
      simp at hz
      exact hz
    have hpos : 0 < level.length := by simp at hpos; omega
    have hnk : levV adj root k ≠ [] := by rw [← hlev]; intro h; rw [h] at hpos; simp at hpos
    have hlevl := levV_length adj root k
    rw [← hlev] at hlevl
    obtain ⟨hsl, hsi⟩ := hseen
    rw [if_neg (by omega)] at hkn
    have hkl : k < adj.length := by omega
    refine ⟨by rw [hout]; simp; omega, ⟨by omega, by omega, by omega⟩, ?_⟩
    -- the neighbours of the level
    refine Ok.mono (P := fun q => q.1 = seen ∧ q.2.1 = out ++ [level] ∧ q.2.2.1.length = adj.length ∧ ∀ w, w < adj.length → (q.2.2.1[w]? = some true ↔ (∃ m, AtK (Nb adj) root k m ∧ Nb adj m w) ∧ seen[w]? = some false)) ?_ ?_
    · refine Ok.for (i0 := 0) level.length (fun i t => t.1 = seen ∧ t.2.1 = out ++ [level] ∧ t.2.2.1.length = adj.length ∧ ∀ w, w < adj.length → (t.2.2.1[w]? = some true ↔ (∃ m : Nat, (m : Int) ∈ level.take i ∧ Nb adj m w) ∧ seen[w]? = some false)) rfl ⟨rfl, rfl, by simp, fun w hw => by simp [List.getElem?_replicate, hw]⟩ (Nat.zero_le _) ?_ ?_
      · rintro i ⟨s, o, next, _⟩ _ hi ⟨h1, h2, h3, h4⟩
        simp only at h1 h2 h3 h4
        have hmi : level[i] ∈ levV adj root k := by rw [← hlev]; exact List.getElem_mem hi
        obtain ⟨v, hv1, hv2, hv3⟩ := mem_levV' hmi
        have hgl : getI level (i : Int) = some (v : Int) := getN_some (by rw [List.getElem?_eq_getElem hi, hv1])
        have hga : getI adj (v : Int) = some adj[v] := getN_some (List.getElem?_eq_getElem hv2)
        have hvl := hc _ (List.getElem_mem hv2)
        simp only [Ok.bif_iff, hgl, hga, Option.bind_some]
        refine ⟨fun _ => ?_, fun hf => by simp at hf; omega⟩
        simp only [Ok.bind_iff]
        refine Ok.mono (P := fun q => q.1 = seen ∧ q.2.1 = out ++ [level] ∧ q.2.2.1.length = adj.length ∧ ∀ w, w < adj.length → (q.2.2.1[w]? = some true ↔ (∃ m : Nat, (m : Int) ∈ level.take (i + 1) ∧ Nb adj m w) ∧ seen[w]? = some false)) ?_ (by rintro ⟨s, o, x, _⟩ h; simp only [Ok.some_iff]; exact ⟨wrap_succ (by omega), h⟩)
        refine Ok.for (i0 := 0) adj[v].length (fun j t => t.1 = seen ∧ t.2.1 = out ++ [level] ∧ t.2.2.1.length = adj.length ∧ ∀ w, w < adj.length → (t.2.2.1[w]? = some true ↔ ((∃ m : Nat, (m : Int) ∈ level.take i ∧ Nb adj m w) ∨ (w : Int) ∈ adj[v].take j) ∧ seen[w]? = some false)) rfl ⟨h1, h2, h3, fun w hw => by rw [h4 w hw]; simp⟩ (Nat.zero_le _) ?_ ?_
        · rintro j ⟨s', o', nx, _⟩ _ hj ⟨g1, g2, g3, g4⟩
          simp only at g1 g2 g3 g4
          subst g1 g2
          have hrj := (hV.asc v hv2).2 _ (List.getElem_mem hj)
          obtain ⟨w, hw⟩ : ∃ w : Nat, adj[v][j] = (w : Int) := ⟨adj[v][j].toNat, by omega⟩
          have hwn : w < adj.length := by omega
          have hgj : getI adj[v] (j : Int) = some (w : Int) := getN_some (by rw [List.getElem?_eq_getElem hj, hw])
          have hiw := (hsi w hwn)
          have hsw : s'[w]? = some s'[w] := List.getElem?_eq_getElem (by omega)
          have hnw : nx[w]? = some nx[w] := List.getElem?_eq_getElem (by omega)
          have hnew : ∀ b : Bool, (b = true ↔ s'[w]'(by omega) = false) → ∀ x, x < adj.length → ((nx.set w b)[x]? = some true ↔ ((∃ m : Nat, (m : Int) ∈ level.take i ∧ Nb adj m x) ∨ (x : Int) ∈ adj[v].take (j + 1)) ∧ s'[x]? = some false) := by
            intro b hb x hx
            rw [← take_snoc hj, hw, List.mem_append, List.mem_singleton, List.getElem?_set]
            by_cases hxw : w = x
            · subst hxw
              rw [if_pos rfl, if_pos (by omega), hsw]
              simp [hb]
            · rw [if_neg hxw, g4 x hx]
              have : ¬ (x : Int) = (w : Int) := by omega
              simp only [this, or_false]
          simp only [Ok.bif_iff, Ok.bind_iff, hgj, Ok.some_iff, Ok.idxN_iff, Ok.atO_iff, Int.toNat_natCast]
          refine ⟨fun _ => ⟨⟨by omega, by omega⟩, by omega, fun hnf => ⟨⟨by omega, by omega⟩, by omega, ⟨by omega, by omega⟩, by omega, wrap_succ (by omega), trivial, trivial, by simpa using g3, ?_⟩, fun hnt => ⟨⟨by omega, by omega⟩, by omega, wrap_succ (by omega), trivial, trivial, by simpa using g3, ?_⟩⟩, fun hf => by simp at hf; omega⟩
          · exact hnew _ (by simp)
          · refine hnew true ?_
            have hnt : nx[w]'(by omega) = true := by simpa using hnt
            have := (g4 w hwn).1 (by rw [hnw, hnt])
            rw [hsw] at this
            simp at this
            simp [this.2]
        · rintro ⟨s', o', nx, _⟩ ⟨g1, g2, g3, g4⟩
          simp only at g1 g2 g3 g4
          simp only [Ok.bif_iff, Ok.some_iff]
          refine ⟨fun hf => by simp at hf, fun _ => ⟨g1, g2, g3, fun w hw => ?_⟩⟩
          rw [g4 w hw, List.take_length, ← take_snoc hi, hv1]
          simp only [List.mem_append, List.mem_singleton]
          constructor
          · rintro ⟨⟨m, h5, h6⟩ | h5, h7⟩
            · exact ⟨⟨m, .inl h5, h6⟩, h7⟩
            · exact ⟨⟨v, .inr rfl, hv2, h5⟩, h7⟩
          · rintro ⟨⟨m, h5 | h5, h6⟩, h7⟩
            · exact ⟨.inl ⟨m, h5, h6⟩, h7⟩
            · obtain rfl : m = v := by omega
              exact ⟨.inr h6.2, h7⟩
      · rintro ⟨s, o, next, _⟩ ⟨h1, h2, h3, h4⟩
        simp only at h1 h2 h3 h4
        simp only [Ok.bif_iff, Ok.some_iff]
        refine ⟨fun hf => by simp at hf, fun _ => ⟨h1, h2, h3, fun w hw => ?_⟩⟩
        rw [h4 w hw, List.take_length, hlev]
        simp only [mem_levV hV hr]
    · rintro ⟨s, o, next, _⟩ ⟨h1, h2, h3, h4⟩
      simp only at h1 h2 h3 h4
      subst h1
      simp only
      have hnext : ∀ w, w < adj.length → (next[w]? = some true ↔ AtK (Nb adj) root (k + 1) w) := by
        intro w hw
        rw [h4 w hw, AtK.succ_iff]
        refine and_congr Iff.rfl ?_
        have := hsi w hw
        rw [List.getElem?_eq_getElem (show w < s.length by omega)] at this ⊢
        simp only [Option.some.injEq] at this ⊢
        rw [Bool.eq_false_iff, ne_eq, this]
        exact ⟨fun h k' hk' hp => h ⟨k', hk', hp⟩, fun h ⟨k', hk', hp⟩ => h k' hk' hp⟩
      -- the next level
      refine Ok.mono (P := fun q => q.2.1 = o ∧ q.2.2.1 = levV adj root (k + 1) ∧ Seen adj root (k + 1) q.1 ∧ q.1.count false + q.2.2.1.length = s.count false) ?_ ?_
      · refine Ok.for (i0 := 0) adj.length (fun v t => t.2.2.1 = next ∧ t.2.1 = o ∧ t.1.length = adj.length ∧ (∀ x, x < adj.length → (t.1[x]? = some true ↔ s[x]? = some true ∨ (x < v ∧ AtK (Nb adj) root (k + 1) x))) ∧ t.2.2.2.1 = ((List.range v).filter fun x => decide (AtK (Nb adj) root (k + 1) x)).map (fun (x : Nat) => (x : Int)) ∧ t.1.count false + t.2.2.2.1.length = s.count false) rfl ⟨rfl, rfl, hsl, fun x hx => by simp, rfl, rfl⟩ (Nat.zero_le _) ?_ ?_
        · rintro v ⟨s', o', nx, l, _⟩ _ hv ⟨g1, g2, g3, g4, g5, g6⟩
          simp only at g1 g2 g3 g4 g5 g6
          subst g1 g2
          have hnv : nx[v]? = some nx[v] := List.getElem?_eq_getElem (by omega)
          have hll : l.length ≤ v := by
            rw [g5, List.length_map]
            exact Nat.le_trans (List.length_filter_le _ _) (by simp)
          simp only [Ok.bif_iff, Ok.bind_iff, Ok.some_iff, Ok.idxN_iff, Ok.atO_iff, Ok.limO_iff, Int.toNat_natCast]
          refine ⟨fun _ => ⟨⟨by omega, by omega⟩, by omega, fun ht => ⟨by simp; omega, ⟨by omega, by omega⟩, by omega, wrap_succ (by omega), trivial, trivial, by simpa using g3, fun x hx => ?_, ?_, ?_⟩, fun hf => ⟨wrap_succ (by omega), trivial, trivial, g3, fun x hx => ?_, ?_, g6⟩⟩, fun hf => by simp at hf; omega⟩
          · have hat := (hnext v hv).1 (by rw [hnv, ht])
            rw [List.getElem?_set]
            by_cases hx2 : v = x
            · subst hx2
              rw [if_pos rfl, if_pos (by omega)]
              simp [hat]
            · rw [if_neg hx2, g4 x hx]
              constructor
              · rintro (h | ⟨h, h'⟩)
                · exact .inl h
                · exact .inr ⟨by omega, h'⟩
              · rintro (h | ⟨h, h'⟩)
                · exact .inl h
                · exact .inr ⟨by omega, h'⟩
          · have hat := (hnext v hv).1 (by rw [hnv, ht])
            rw [List.range_succ, List.filter_append, List.map_append, ← g5]
            simp [hat]
          · have hat := (hnext v hv).1 (by rw [hnv, ht])
            have hsv : s'[v]'(by omega) = false := by
              rw [Bool.eq_false_iff]
              intro h
              rcases (g4 v hv).1 (by rw [List.getElem?_eq_getElem (by omega), h]) with h | ⟨h, _⟩
              · obtain ⟨k', hk', hp⟩ := (hsi v hv).1 h
                exact hat.2 k' (by omega) hp
              · omega
            have := count_set_true s' v (by omega) hsv
            rw [List.length_append, List.length_singleton]
            omega
          · have hat : ¬ AtK (Nb adj) root (k + 1) v := fun h => by
              have := (hnext v hv).2 h
              rw [hnv, hf] at this
              cases this
            rw [g4 x hx]
            constructor
            · rintro (h | ⟨h, h'⟩)
              · exact .inl h
              · exact .inr ⟨by omega, h'⟩
            · rintro (h | ⟨h, h'⟩)
              · exact .inl h
              · rcases Nat.lt_or_ge x v with h3 | h3
                · exact .inr ⟨h3, h'⟩
                · obtain rfl : x = v := by omega
                  exact absurd h' hat
          · have hat : ¬ AtK (Nb adj) root (k + 1) v := fun h => by
              have := (hnext v hv).2 h
              rw [hnv, hf] at this
              cases this
            rw [List.range_succ, List.filter_append, List.map_append, ← g5]
            simp [hat]
        · rintro ⟨s', o', nx, l, _⟩ ⟨g1, g2, g3, g4, g5, g6⟩
          simp only at g1 g2 g3 g4 g5 g6
          simp only [Ok.bif_iff, Ok.some_iff]
          refine ⟨fun hf => by simp at hf, fun _ => ⟨g2, g5, ⟨g3, fun v hv => ?_⟩, g6⟩⟩
          rw [g4 v hv, hsi v hv]
          constructor
          · rintro (⟨k', hk', hp⟩ | ⟨_, h⟩)
            · exact ⟨k', by omega, hp⟩
            · exact ⟨k + 1, Nat.le_refl _, h.1⟩
          · rintro ⟨k', hk', hp⟩
            by_cases h : ∃ k', k' ≤ k ∧ PathN (Nb adj) root k' v
            · exact .inl h
            · refine .inr ⟨hv, ?_⟩
              have : k' = k + 1 := by
                rcases Nat.lt_or_ge k' (k + 1) with h2 | h2
                · exact absurd ⟨k', by omega, hp⟩ h
                · omega
              subst this
              exact ⟨hp, fun k'' h2 h3 => h ⟨k'', by omega, h3⟩⟩
      · rintro ⟨s', o', l, _⟩ ⟨g1, g2, g3, g4⟩
        simp only at g1 g2 g3 g4
        simp only [Ok.some_iff]
        refine ⟨⟨k + 1, g2, g3, ?_, fun j hj => ?_, ?_⟩, ?_⟩
        · rw [g1, h2, hout, hlev, List.range_succ, List.map_append]; rfl
        · rcases Nat.lt_or_ge j k with h | h
          · exact hne j h
          · obtain rfl : j = k := by omega
            exact hnk
        · split <;> omega
        · rw [if_neg (show ¬ level.length = 0 by omega)]; split <;> omega
end Go.Fw
