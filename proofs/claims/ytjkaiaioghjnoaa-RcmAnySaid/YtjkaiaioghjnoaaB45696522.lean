/-
  Parts of the proof: Pl14, Pl16, Pl18, Th3, Pl29, Pl30, Pl40, Pl41, Pl42, Pl44, Pl46, Pl48, Pl15, Pl49, Pl50, Pl51, Pl52, Pl53, Ev17: the framework (Fw), pure forms (Dn), plain laws (Pl, Th), calls of functions (Ok).
-/
import Derived.KernelRfl
import Derived.Test.YtjkaiaioghjnoaaBadd61adb

set_option linter.all false
section
set_option linter.unusedSimpArgs false
set_option linter.unusedVariables false
namespace Go.Fw
inductive PathN (A : Nat → Nat → Prop) (u : Nat) : Nat → Nat → Prop
  | zero : PathN A u 0 u
  | succ {k m v : Nat} : PathN A u k m → A m v → PathN A u (k + 1) v
def AtK (A : Nat → Nat → Prop) (u k v : Nat) : Prop := PathN A u k v ∧ ∀ k', k' < k → ¬ PathN A u k' v
section
variable {A : Nat → Nat → Prop} {u : Nat}
theorem AtK.exists {k v : Nat} (h : PathN A u k v) : ∃ k', k' ≤ k ∧ AtK A u k' v := by
  have : ∀ n k, k ≤ n → PathN A u k v → ∃ k', k' ≤ k ∧ AtK A u k' v := by
    intro n
    induction n with
    | zero =>
      intro k hk h
      obtain rfl : k = 0 := by omega
      exact ⟨0, Nat.le_refl _, h, fun k' hk' => by omega⟩
    | succ n ih =>
      intro k hk h
      by_cases h2 : ∃ k', k' < k ∧ PathN A u k' v
      · obtain ⟨k', h3, h4⟩ := h2
        obtain ⟨k'', h5, h6⟩ := ih k' (by omega) h4
        exact ⟨k'', by omega, h6⟩
      · exact ⟨k, Nat.le_refl _, h, fun k' h3 h4 => h2 ⟨k', h3, h4⟩⟩
  exact this k k (Nat.le_refl _) h
theorem AtK.pred {k v : Nat} (h : AtK A u (k + 1) v) : ∃ m, AtK A u k m ∧ A m v := by
  obtain ⟨h1, h2⟩ := h
  cases h1 with
  | @succ _ m _ hp ha =>
    refine ⟨m, ⟨hp, fun k' hk' hp' => h2 (k' + 1) (by omega) (.succ hp' ha)⟩, ha⟩
theorem AtK.succ_iff {k v : Nat} : AtK A u (k + 1) v ↔ (∃ m, AtK A u k m ∧ A m v) ∧ ∀ k', k' ≤ k → ¬ PathN A u k' v := by
  constructor
  · intro h
    exact ⟨h.pred, fun k' hk' => h.2 k' (by omega)⟩
  · rintro ⟨⟨m, h1, h2⟩, h3⟩
    exact ⟨.succ h1.1 h2, fun k' hk' => h3 k' (by omega)⟩
theorem AtK.empty {k : Nat} (h : ∀ v, ¬ AtK A u k v) : ∀ d v, ¬ AtK A u (k + d) v := by
  intro d
  induction d with
  | zero => exact h
  | succ d ih =>
    intro v hv
    obtain ⟨m, hm, _⟩ := AtK.pred (k := k + d) hv
    exact ih m hm
end
open Classical in
noncomputable def levV (adj : List (List Int)) (root k : Nat) : List Int := ((List.range adj.length).filter fun v => decide (AtK (Nb adj) root k v)).map fun (v : Nat) => (v : Int)
theorem PathN.lt {adj : List (List Int)} (hV : Valid adj) {root k v : Nat} (hr : root < adj.length) (h : PathN (Nb adj) root k v) : v < adj.length := by
  cases h with
  | zero => exact hr
  | succ _ ha => exact (ha.lt hV).2
theorem mem_levV {adj : List (List Int)} (hV : Valid adj) {root k v : Nat} (hr : root < adj.length) : (v : Int) ∈ levV adj root k ↔ AtK (Nb adj) root k v := by
  unfold levV
  simp only [List.mem_map, List.mem_filter, List.mem_range, decide_eq_true_eq]
  constructor
  · rintro ⟨a, ⟨h1, h2⟩, h3⟩
    obtain rfl : a = v := by omega
    exact h2
  · exact fun h => ⟨v, ⟨h.1.lt hV hr, h⟩, rfl⟩
theorem mem_levV' {adj : List (List Int)} {root k : Nat} {x : Int} (h : x ∈ levV adj root k) : ∃ v : Nat, x = (v : Int) ∧ v < adj.length ∧ AtK (Nb adj) root k v := by
  unfold levV at h
  simp only [List.mem_map, List.mem_filter, List.mem_range, decide_eq_true_eq] at h
  obtain ⟨a, ⟨h1, h2⟩, h3⟩ := h
  exact ⟨a, h3.symm, h1, h2⟩
theorem levV_length (adj : List (List Int)) (root k : Nat) : (levV adj root k).length ≤ adj.length := by
  unfold levV
  rw [List.length_map]
  exact Nat.le_trans (List.length_filter_le _ _) (by simp)
theorem filter_single (n r : Nat) (h : r < n) (p : Nat → Bool) (hp : ∀ x, x < n → (p x = true ↔ x = r)) : (List.range n).filter p = [r] := by
  have hs : ((List.range n).filter p).Pairwise (· < ·) := List.Pairwise.filter _ List.pairwise_lt_range
  have hm : ∀ x, x ∈ (List.range n).filter p ↔ x = r := fun x => by
    rw [List.mem_filter, List.mem_range]
    constructor
    · rintro ⟨h1, h2⟩; exact (hp x h1).1 h2
    · rintro rfl; exact ⟨h, (hp x h).2 rfl⟩
  generalize (List.range n).filter p = L at hs hm
  match L, hs, hm with
  | [], _, hm => exact absurd ((hm r).2 rfl) (by simp)
  | [a], _, hm => rw [(hm a).1 (by simp)]
  | a :: b :: _, hs, hm =>
    have h1 := (hm a).1 (by simp)
    have h2 := (hm b).1 (by simp)
    have := (List.pairwise_cons.1 hs).1 b (by simp)
    omega
theorem levV_zero (adj : List (List Int)) (root : Nat) (hr : root < adj.length) : levV adj root 0 = [(root : Int)] := by
  classical
  unfold levV
  rw [filter_single adj.length root hr]
  · rfl
  · intro x hx
    rw [decide_eq_true_eq]
    constructor
    · rintro ⟨h, _⟩; cases h; rfl
    · rintro rfl; exact ⟨.zero, fun k' hk => by omega⟩
def Seen (adj : List (List Int)) (root k : Nat) (seen : List Bool) : Prop := seen.length = adj.length ∧ ∀ v, v < adj.length → (seen[v]? = some true ↔ ∃ k', k' ≤ k ∧ PathN (Nb adj) root k' v)
theorem count_set_true (l : List Bool) (i : Nat) (h : i < l.length) (hf : l[i] = false) : (l.set i true).count false + 1 = l.count false := by
  rw [List.count_set h, hf]
  have : 0 < l.count false := List.count_pos_iff.2 (hf ▸ List.getElem_mem h)
  simp
  omega
open Classical in
theorem Levels_ok {adj : List (List Int)} (hV : Valid adj) (hc : ∀ l ∈ adj, l.length < 4611686018427387904) (hn : adj.length ≤ 200) {root : Nat} (hr : root < adj.length) :
    Ok (d_sparseref12q_Levels ((adj, ()), (root : Int), ())) (fun r => ∃ K, K ≤ adj.length ∧ r.1 = (List.range K).map (levV adj root) ∧ (∀ k, k < K → levV adj root k ≠ []) ∧ levV adj root K = []) := by
  unfold d_sparseref12q_Levels
  have hlim : lim = 4294967296 := rfl
  have hchk : chk adj = 0 := by unfold chk; rw [if_neg (by omega), if_pos hV]
  have e1 : decide ((root : Int) < 0) = false := by simp
  have e2 : decide ((root : Int) ≥ (adj.length : Int)) = false := by simp; omega
  simp only [refCheck_eq adj hc, hchk, e1, e2, Option.bind_some, bne_self_eq_false, beq_self_eq_true, cond_true, cond_false]
  simp only [Ok.bind_iff, Ok.madeO_iff, Ok.idxN_iff, Ok.atO_iff, Ok.some_iff, Int.toNat_natCast, List.length_replicate]
  refine ⟨⟨by omega, by omega, by omega⟩, ⟨by omega, hr⟩, hr, ?_⟩
  refine Ok.loop (fun s => ∃ k, s.1 = levV adj root k ∧ Seen adj root k s.2.1 ∧ s.2.2.1 = (List.range k).map (levV adj root) ∧ (∀ j, j < k → levV adj root j ≠ []) ∧ k + s.2.1.count false + (if s.1.length = 0 then 0 else 1) ≤ adj.length)
    (fun s => 2 * s.2.1.count false + (if s.1.length = 0 then 0 else 1)) ⟨0, (levV_zero adj root hr).symm, ⟨by simp, fun v hv => ?_⟩, rfl, fun j hj => by omega, ?_⟩ ?_
  · simp only [List.getElem?_set, List.getElem?_replicate, List.length_replicate]
    by_cases h : root = v
    · subst h
      simp [hr]
      exact .zero
    · rw [if_neg h, if_pos hv]
      simp only [Option.some.injEq, Bool.false_eq_true, false_iff]
      rintro ⟨k', hk, hp⟩
      obtain rfl : k' = 0 := by omega
      cases hp
      exact h rfl
  · have := count_set_true (List.replicate adj.length false) root (by simpa using hr) (by simp)
    rw [List.count_replicate_self] at this
    simp only [List.length_singleton]
    rw [if_neg (by omega)]
    omega
  · rintro ⟨level, seen, out, _⟩ ⟨k, hlev, hseen, hout, hne, hkn⟩
    simp only at hlev hseen hout hkn
    simp only [Ok.bif_iff, Ok.bind_iff, Ok.some_iff, Ok.limO_iff, Ok.madeO_iff, Int.toNat_natCast]
    refine ⟨fun hpos => ?_, fun hz => ⟨k, by omega, hout, hne, ?_⟩⟩
    rotate_left
    · rw [← hlev]
      simp at hz
      exact hz
    have hpos : 0 < level.length := by simp at hpos; omega
    have hnk : levV adj root k ≠ [] := by rw [← hlev]; intro h; rw [h] at hpos; simp at hpos
    have hlevl := levV_length adj root k
    rw [← hlev] at hlevl
    obtain ⟨hsl, hsi⟩ := hseen
    rw [if_neg (by omega)] at hkn
    have hkl : k < adj.length := by omega
    refine ⟨by rw [hout]; simp; omega, ⟨by omega, by omega, by omega⟩, ?_⟩
    -- the neighbours of the level
    refine Ok.mono (P := fun q => q.1 = seen ∧ q.2.1 = out ++ [level] ∧ q.2.2.1.length = adj.length ∧ ∀ w, w < adj.length → (q.2.2.1[w]? = some true ↔ (∃ m, AtK (Nb adj) root k m ∧ Nb adj m w) ∧ seen[w]? = some false)) ?_ ?_
    · refine Ok.for (i0 := 0) level.length (fun i t => t.1 = seen ∧ t.2.1 = out ++ [level] ∧ t.2.2.1.length = adj.length ∧ ∀ w, w < adj.length → (t.2.2.1[w]? = some true ↔ (∃ m : Nat, (m : Int) ∈ level.take i ∧ Nb adj m w) ∧ seen[w]? = some false)) rfl ⟨rfl, rfl, by simp, fun w hw => by simp [List.getElem?_replicate, hw]⟩ (Nat.zero_le _) ?_ ?_
      · rintro i ⟨s, o, next, _⟩ _ hi ⟨h1, h2, h3, h4⟩
        simp only at h1 h2 h3 h4
        have hmi : level[i] ∈ levV adj root k := by rw [← hlev]; exact List.getElem_mem hi
        obtain ⟨v, hv1, hv2, hv3⟩ := mem_levV' hmi
        have hgl : getI level (i : Int) = some (v : Int) := getN_some (by rw [List.getElem?_eq_getElem hi, hv1])
        have hga : getI adj (v : Int) = some adj[v] := getN_some (List.getElem?_eq_getElem hv2)
        have hvl := hc _ (List.getElem_mem hv2)
        simp only [Ok.bif_iff, hgl, hga, Option.bind_some]
        refine ⟨fun _ => ?_, fun hf => by simp at hf; omega⟩
        simp only [Ok.bind_iff]
        refine Ok.mono (P := fun q => q.1 = seen ∧ q.2.1 = out ++ [level] ∧ q.2.2.1.length = adj.length ∧ ∀ w, w < adj.length → (q.2.2.1[w]? = some true ↔ (∃ m : Nat, (m : Int) ∈ level.take (i + 1) ∧ Nb adj m w) ∧ seen[w]? = some false)) ?_ (by rintro ⟨s, o, x, _⟩ h; simp only [Ok.some_iff]; exact ⟨wrap_succ (by omega), h⟩)
        refine Ok.for (i0 := 0) adj[v].length (fun j t => t.1 = seen ∧ t.2.1 = out ++ [level] ∧ t.2.2.1.length = adj.length ∧ ∀ w, w < adj.length → (t.2.2.1[w]? = some true ↔ ((∃ m : Nat, (m : Int) ∈ level.take i ∧ Nb adj m w) ∨ (w : Int) ∈ adj[v].take j) ∧ seen[w]? = some false)) rfl ⟨h1, h2, h3, fun w hw => by rw [h4 w hw]; simp⟩ (Nat.zero_le _) ?_ ?_
        · rintro j ⟨s', o', nx, _⟩ _ hj ⟨g1, g2, g3, g4⟩
          simp only at g1 g2 g3 g4
          subst g1 g2
          have hrj := (hV.asc v hv2).2 _ (List.getElem_mem hj)
          obtain ⟨w, hw⟩ : ∃ w : Nat, adj[v][j] = (w : Int) := ⟨adj[v][j].toNat, by omega⟩
          have hwn : w < adj.length := by omega
          have hgj : getI adj[v] (j : Int) = some (w : Int) := getN_some (by rw [List.getElem?_eq_getElem hj, hw])
          have hiw := (hsi w hwn)
          have hsw : s'[w]? = some s'[w] := List.getElem?_eq_getElem (by omega)
          have hnw : nx[w]? = some nx[w] := List.getElem?_eq_getElem (by omega)
          have hnew : ∀ b : Bool, (b = true ↔ s'[w]'(by omega) = false) → ∀ x, x < adj.length → ((nx.set w b)[x]? = some true ↔ ((∃ m : Nat, (m : Int) ∈ level.take i ∧ Nb adj m x) ∨ (x : Int) ∈ adj[v].take (j + 1)) ∧ s'[x]? = some false) := by
            intro b hb x hx
            rw [← take_snoc hj, hw, List.mem_append, List.mem_singleton, List.getElem?_set]
            by_cases hxw : w = x
            · subst hxw
              rw [if_pos rfl, if_pos (by omega), hsw]
              simp [hb]
            · rw [if_neg hxw, g4 x hx]
              have : ¬ (x : Int) = (w : Int) := by omega
              simp only [this, or_false]
          simp only [Ok.bif_iff, Ok.bind_iff, hgj, Ok.some_iff, Ok.idxN_iff, Ok.atO_iff, Int.toNat_natCast]
          refine ⟨fun _ => ⟨⟨by omega, by omega⟩, by omega, fun hnf => ⟨⟨by omega, by omega⟩, by omega, ⟨by omega, by omega⟩, by omega, wrap_succ (by omega), trivial, trivial, by simpa using g3, ?_⟩, fun hnt => ⟨⟨by omega, by omega⟩, by omega, wrap_succ (by omega), trivial, trivial, by simpa using g3, ?_⟩⟩, fun hf => by simp at hf; omega⟩
          · exact hnew _ (by simp)
          · refine hnew true ?_
            have hnt : nx[w]'(by omega) = true := by simpa using hnt
            have := (g4 w hwn).1 (by rw [hnw, hnt])
            rw [hsw] at this
            simp at this
            simp [this.2]
        · rintro ⟨s', o', nx, _⟩ ⟨g1, g2, g3, g4⟩
          simp only at g1 g2 g3 g4
          simp only [Ok.bif_iff, Ok.some_iff]
          refine ⟨fun hf => by simp at hf, fun _ => ⟨g1, g2, g3, fun w hw => ?_⟩⟩
          rw [g4 w hw, List.take_length, ← take_snoc hi, hv1]
          simp only [List.mem_append, List.mem_singleton]
          constructor
          · rintro ⟨⟨m, h5, h6⟩ | h5, h7⟩
            · exact ⟨⟨m, .inl h5, h6⟩, h7⟩
            · exact ⟨⟨v, .inr rfl, hv2, h5⟩, h7⟩
          · rintro ⟨⟨m, h5 | h5, h6⟩, h7⟩
            · exact ⟨.inl ⟨m, h5, h6⟩, h7⟩
            · obtain rfl : m = v := by omega
              exact ⟨.inr h6.2, h7⟩
      · rintro ⟨s, o, next, _⟩ ⟨h1, h2, h3, h4⟩
        simp only at h1 h2 h3 h4
        simp only [Ok.bif_iff, Ok.some_iff]
        refine ⟨fun hf => by simp at hf, fun _ => ⟨h1, h2, h3, fun w hw => ?_⟩⟩
        rw [h4 w hw, List.take_length, hlev]
        simp only [mem_levV hV hr]
    · rintro ⟨s, o, next, _⟩ ⟨h1, h2, h3, h4⟩
      simp only at h1 h2 h3 h4
      subst h1
      simp only
      have hnext : ∀ w, w < adj.length → (next[w]? = some true ↔ AtK (Nb adj) root (k + 1) w) := by
        intro w hw
        rw [h4 w hw, AtK.succ_iff]
        refine and_congr Iff.rfl ?_
        have := hsi w hw
        rw [List.getElem?_eq_getElem (show w < s.length by omega)] at this ⊢
        simp only [Option.some.injEq] at this ⊢
        rw [Bool.eq_false_iff, ne_eq, this]
        exact ⟨fun h k' hk' hp => h ⟨k', hk', hp⟩, fun h ⟨k', hk', hp⟩ => h k' hk' hp⟩
      -- the next level
      refine Ok.mono (P := fun q => q.2.1 = o ∧ q.2.2.1 = levV adj root (k + 1) ∧ Seen adj root (k + 1) q.1 ∧ q.1.count false + q.2.2.1.length = s.count false) ?_ ?_
      · refine Ok.for (i0 := 0) adj.length (fun v t => t.2.2.1 = next ∧ t.2.1 = o ∧ t.1.length = adj.length ∧ (∀ x, x < adj.length → (t.1[x]? = some true ↔ s[x]? = some true ∨ (x < v ∧ AtK (Nb adj) root (k + 1) x))) ∧ t.2.2.2.1 = ((List.range v).filter fun x => decide (AtK (Nb adj) root (k + 1) x)).map (fun (x : Nat) => (x : Int)) ∧ t.1.count false + t.2.2.2.1.length = s.count false) rfl ⟨rfl, rfl, hsl, fun x hx => by simp, rfl, rfl⟩ (Nat.zero_le _) ?_ ?_
        · rintro v ⟨s', o', nx, l, _⟩ _ hv ⟨g1, g2, g3, g4, g5, g6⟩
          simp only at g1 g2 g3 g4 g5 g6
          subst g1 g2
          have hnv : nx[v]? = some nx[v] := List.getElem?_eq_getElem (by omega)
          have hll : l.length ≤ v := by
            rw [g5, List.length_map]
            exact Nat.le_trans (List.length_filter_le _ _) (by simp)
          simp only [Ok.bif_iff, Ok.bind_iff, Ok.some_iff, Ok.idxN_iff, Ok.atO_iff, Ok.limO_iff, Int.toNat_natCast]
          refine ⟨fun _ => ⟨⟨by omega, by omega⟩, by omega, fun ht => ⟨by simp; omega, ⟨by omega, by omega⟩, by omega, wrap_succ (by omega), trivial, trivial, by simpa using g3, fun x hx => ?_, ?_, ?_⟩, fun hf => ⟨wrap_succ (by omega), trivial, trivial, g3, fun x hx => ?_, ?_, g6⟩⟩, fun hf => by simp at hf; omega⟩
          · have hat := (hnext v hv).1 (by rw [hnv, ht])
            rw [List.getElem?_set]
            by_cases hx2 : v = x
            · subst hx2
              rw [if_pos rfl, if_pos (by omega)]
              simp [hat]
            · rw [if_neg hx2, g4 x hx]
              constructor
              · rintro (h | ⟨h, h'⟩)
                · exact .inl h
                · exact .inr ⟨by omega, h'⟩
              · rintro (h | ⟨h, h'⟩)
                · exact .inl h
                · exact .inr ⟨by omega, h'⟩
          · have hat := (hnext v hv).1 (by rw [hnv, ht])
            rw [List.range_succ, List.filter_append, List.map_append, ← g5]
            simp [hat]
          · have hat := (hnext v hv).1 (by rw [hnv, ht])
            have hsv : s'[v]'(by omega) = false := by
              rw [Bool.eq_false_iff]
              intro h
              rcases (g4 v hv).1 (by rw [List.getElem?_eq_getElem (by omega), h]) with h | ⟨h, _⟩
              · obtain ⟨k', hk', hp⟩ := (hsi v hv).1 h
                exact hat.2 k' (by omega) hp
              · omega
            have := count_set_true s' v (by omega) hsv
            rw [List.length_append, List.length_singleton]
            omega
          · have hat : ¬ AtK (Nb adj) root (k + 1) v := fun h => by
              have := (hnext v hv).2 h
              rw [hnv, hf] at this
              cases this
            rw [g4 x hx]
            constructor
            · rintro (h | ⟨h, h'⟩)
              · exact .inl h
              · exact .inr ⟨by omega, h'⟩
            · rintro (h | ⟨h, h'⟩)
              · exact .inl h
              · rcases Nat.lt_or_ge x v with h3 | h3
                · exact .inr ⟨h3, h'⟩
                · obtain rfl : x = v := by omega
                  exact absurd h' hat
          · have hat : ¬ AtK (Nb adj) root (k + 1) v := fun h => by
              have := (hnext v hv).2 h
              rw [hnv, hf] at this
              cases this
            rw [List.range_succ, List.filter_append, List.map_append, ← g5]
            simp [hat]
        · rintro ⟨s', o', nx, l, _⟩ ⟨g1, g2, g3, g4, g5, g6⟩
          simp only at g1 g2 g3 g4 g5 g6
          simp only [Ok.bif_iff, Ok.some_iff]
          refine ⟨fun hf => by simp at hf, fun _ => ⟨g2, g5, ⟨g3, fun v hv => ?_⟩, g6⟩⟩
          rw [g4 v hv, hsi v hv]
          constructor
          · rintro (⟨k', hk', hp⟩ | ⟨_, h⟩)
            · exact ⟨k', by omega, hp⟩
            · exact ⟨k + 1, Nat.le_refl _, h.1⟩
          · rintro ⟨k', hk', hp⟩
            by_cases h : ∃ k', k' ≤ k ∧ PathN (Nb adj) root k' v
            · exact .inl h
            · refine .inr ⟨hv, ?_⟩
              have : k' = k + 1 := by
                rcases Nat.lt_or_ge k' (k + 1) with h2 | h2
                · exact absurd ⟨k', by omega, hp⟩ h
                · omega
              subst this
              exact ⟨hp, fun k'' h2 h3 => h ⟨k'', by omega, h3⟩⟩
      · rintro ⟨s', o', l, _⟩ ⟨g1, g2, g3, g4⟩
        simp only at g1 g2 g3 g4
        simp only [Ok.some_iff]
        refine ⟨⟨k + 1, g2, g3, ?_, fun j hj => ?_, ?_⟩, ?_⟩
        · rw [g1, h2, hout, hlev, List.range_succ, List.map_append]; rfl
        · rcases Nat.lt_or_ge j k with h | h
          · exact hne j h
          · obtain rfl : j = k := by omega
            exact hnk
        · split <;> omega
        · rw [if_neg (show ¬ level.length = 0 by omega)]; split <;> omega
end Go.Fw
end

section
set_option linter.unusedSimpArgs false
set_option linter.unusedVariables false
namespace Go.Fw
theorem sorted_ext : ∀ {a b : List Int}, a.Pairwise (· < ·) → b.Pairwise (· < ·) → (∀ x, x ∈ a ↔ x ∈ b) → a = b := by
  intro a
  induction a with
  | nil =>
    intro b _ _ h
    cases b with
    | nil => rfl
    | cons y b => exact absurd ((h y).2 (List.mem_cons_self ..)) (by simp)
  | cons x a ih =>
    intro b ha hb h
    cases b with
    | nil => exact absurd ((h x).1 (List.mem_cons_self ..)) (by simp)
    | cons y b =>
      rw [List.pairwise_cons] at ha hb
      have hxy : x = y := by
        have h1 := (h x).1 (List.mem_cons_self ..)
        have h2 := (h y).2 (List.mem_cons_self ..)
        rcases List.mem_cons.1 h1 with h1 | h1
        · exact h1
        · rcases List.mem_cons.1 h2 with h2 | h2
          · exact h2.symm
          · have := hb.1 _ h1; have := ha.1 _ h2; omega
      subst hxy
      rw [ih ha.2 hb.2]
      intro z
      have := h z
      simp only [List.mem_cons] at this
      constructor
      · intro hz
        have h1 := ha.1 _ hz
        rcases this.1 (.inr hz) with h2 | h2
        · omega
        · exact h2
      · intro hz
        have h1 := hb.1 _ hz
        rcases this.2 (.inr hz) with h2 | h2
        · omega
        · exact h2
end Go.Fw
end

section
set_option linter.unusedSimpArgs false
set_option linter.unusedVariables false
namespace Go.Fw
theorem asc_ge {l : List Int} (h : l.Pairwise (· < ·)) (h0 : ∀ x ∈ l, 0 ≤ x) : ∀ k, (hk : k < l.length) → (k : Int) ≤ l[k] := by
  intro k
  induction k with
  | zero => intro hk; exact h0 _ (List.getElem_mem hk)
  | succ k ih =>
    intro hk
    have h1 := ih (by omega)
    have h2 := pairwise_iff.1 h k hk
    omega
theorem AscIn.length {l : List Int} {n : Nat} (h : AscIn l n) : l.length ≤ n := by
  rcases Nat.eq_zero_or_pos l.length with h0 | h0
  · omega
  · have h1 := asc_ge h.1 (fun x hx => (h.2 x hx).1) (l.length - 1) (by omega)
    have h2 := (h.2 _ (List.getElem_mem (show l.length - 1 < l.length by omega))).2
    omega
theorem Valid.rows {adj : List (List Int)} (hV : Valid adj) : ∀ l ∈ adj, l.length ≤ adj.length := by
  intro l hl
  obtain ⟨v, hv, rfl⟩ := List.mem_iff_getElem.1 hl
  exact (hV.asc v hv).length
theorem Valid.hc {adj : List (List Int)} (hV : Valid adj) (hn : adj.length ≤ 200) : ∀ l ∈ adj, l.length < 4611686018427387904 := fun l hl => by
  have := hV.rows l hl; omega
theorem chk_zero {adj : List (List Int)} : chk adj = 0 ↔ adj.length ≤ 200 ∧ Valid adj := by
  unfold chk
  by_cases h : 200 < adj.length
  · rw [if_pos h]; constructor
    · intro h; omega
    · intro h; omega
  · rw [if_neg h]
    by_cases h2 : Valid adj
    · rw [if_pos h2]; exact ⟨fun _ => ⟨by omega, h2⟩, fun _ => rfl⟩
    · rw [if_neg h2]; exact ⟨fun h => by omega, fun h => absurd h.2 h2⟩
end Go.Fw
end

section
set_option linter.unusedSimpArgs false
set_option linter.unusedVariables false
namespace Go.Fw
section
variable {P Q : Nat → Prop} {k : Nat}
end
def PF (n : Nat) (f : Nat → Int) : Prop := ∀ j, j < n → f j = -1 ∨ ((j : Int) < f j ∧ f j < n)
section
variable {n : Nat} {f : Nat → Int} (hf : PF n f)
include hf
end
end Go.Fw
end

section
set_option linter.unusedSimpArgs false
set_option linter.unusedVariables false
namespace Go.Fw
def natL (l : List Nat) : List Int := l.map fun (x : Nat) => (x : Int)
theorem natL_append (a b : List Nat) : natL (a ++ b) = natL a ++ natL b := by simp [natL]
theorem natL_length (a : List Nat) : (natL a).length = a.length := by simp [natL]
section
variable {n : Nat} {f : Nat → Int} (hf : PF n f) (hn : n ≤ 200)
include hf hn
end
end Go.Fw
end

section
set_option linter.unusedSimpArgs false
set_option linter.unusedVariables false
namespace Go.Fw
theorem getD_lt {α : Type} {l : List α} {i : Nat} (h : i < l.length) (d : α) : l.getD i d = l[i] := by
  simp only [List.getD, List.getElem?_eq_getElem h, Option.getD_some]
section
variable {adj : List (List Int)} (hV : Valid adj) (hn : adj.length ≤ 200)
include hV hn
end
end Go.Fw
end

section
namespace Go.Fw
set_option linter.unusedSimpArgs false
set_option linter.unusedVariables false
structure SOrd {α : Type} (lt : α → α → Bool) : Prop where
  asym : ∀ a b, lt a b = true → lt b a = false
  trans : ∀ a b c, lt b a = false → lt c b = false → lt c a = false
theorem SOrd.int : SOrd (fun a b : Int => decide (a < b)) := ⟨fun a b h => by simp at h ⊢; omega, fun a b c h1 h2 => by simp at h1 h2 ⊢; omega⟩
def InsI {α : Type} (lt : α → α → Bool) (g : Nat → α) (i j : Nat) : Prop := ∀ p q, p < q → q ≤ i → q ≠ j → lt (g q) (g p) = false
def SortedI {α : Type} (lt : α → α → Bool) (g : Nat → α) (k : Nat) : Prop := ∀ p q, p < q → q < k → lt (g q) (g p) = false
def swp {α : Type} (g : Nat → α) (j : Nat) : Nat → α := upd (upd g j (g (j - 1))) (j - 1) (g j)
theorem swp_at {α : Type} (g : Nat → α) {j : Nat} (k : Nat) : swp g j k = if k = j - 1 then g j else if k = j then g (j - 1) else g k := rfl
theorem InsI.swp {α : Type} {lt : α → α → Bool} (h : SOrd lt) {g : Nat → α} {i j : Nat} (hI : InsI lt g i j) (hj : 0 < j) (hji : j ≤ i) (hl : lt (g j) (g (j - 1)) = true) : InsI lt (swp g j) i (j - 1) := by
  intro p q hpq hq hne
  rw [swp_at, swp_at, if_neg hne]
  by_cases h1 : q = j
  · subst h1
    rw [if_pos rfl]
    by_cases h2 : p = q - 1
    · rw [if_pos h2]; exact h.asym _ _ hl
    · rw [if_neg h2, if_neg (by omega)]; exact hI p (q - 1) (by omega) (by omega) (by omega)
  · rw [if_neg h1]
    by_cases h2 : p = j - 1
    · rw [if_pos h2]; exact hI j q (by omega) hq h1
    · rw [if_neg h2]
      by_cases h3 : p = j
      · rw [if_pos h3]; exact hI (j - 1) q (by omega) hq h1
      · rw [if_neg h3]; exact hI p q hpq hq h1
theorem InsI.done {α : Type} {lt : α → α → Bool} (h : SOrd lt) {g : Nat → α} {i j : Nat} (hI : InsI lt g i j) (hji : j ≤ i) (hl : j = 0 ∨ lt (g j) (g (j - 1)) = false) : SortedI lt g (i + 1) := by
  intro p q hpq hq
  by_cases h1 : q = j
  · subst h1
    rcases hl with hl | hl
    · omega
    · by_cases h2 : p = q - 1
      · subst h2; exact hl
      · exact h.trans _ _ _ (hI p (q - 1) (by omega) (by omega) (by omega)) hl
  · exact hI p q hpq (by omega) h1
theorem swp_perm {α : Type} {n : Nat} {g : Nat → α} {j : Nat} (hj : 0 < j) (hn : j < n) : (fT n (swp g j)).Perm (fT n g) := by
  have h1 : j < (fT n g).length := by rw [fT_length]; exact hn
  have h2 : j - 1 < (fT n g).length := by rw [fT_length]; omega
  have := List.set_set_perm h1 h2
  rw [fT_getElem, fT_getElem, fT_set, fT_set] at this
  exact this
theorem fT_self {α : Type} [Inhabited α] (l : List α) : l = fT l.length (fun i => l[i]?.getD default) := fT_of l _ (fun i hi => by simp [hi])
theorem insertion_ok (l : List Int) (hl : l.length ≤ 1000) : Ok (d_slices_insertionSortOrdered_int (l, 0, (l.length : Int), ())) (fun r => ∃ g, r.1 = fT l.length g ∧ SortedI (fun a b => decide (a < b)) g l.length ∧ r.1.Perm l) := by
  unfold d_slices_insertionSortOrdered_int
  simp only []
  generalize hn : l.length = n at *
  have h0 : IntKind.i64.wrap (0 + 1) = ((1 : Nat) : Int) := by rw [wrap64] <;> omega
  rw [h0]
  rcases Nat.eq_zero_or_pos n with hz | hpos
  · subst hz
    refine Ok.bind_of (P := fun r => r.1 = l) ?_ ?_
    · refine Ok.loop (fun s => s = (((1 : Nat) : Int), l, ())) (fun _ => 0) rfl ?_
      rintro _ rfl
      simp only [cond_dec]
      rw [if_neg (by omega)]
      exact Ok.some_iff.2 rfl
    · rintro ⟨r, _⟩ rfl
      refine Ok.some_iff.2 ⟨fun _ => 0, ?_, fun p q h1 h2 => by omega, List.Perm.refl _⟩
      show r = []
      exact List.eq_nil_of_length_eq_zero hn
  refine Ok.bind_of (P := fun r => ∃ g, r.1 = fT n g ∧ SortedI (fun a b => decide (a < b)) g n ∧ r.1.Perm l) ?_ (fun r hr => Ok.some_iff.2 hr)
  refine Ok.for n (fun i t => ∃ g, t = (fT n g, ()) ∧ SortedI (fun a b => decide (a < b)) g i ∧ (fT n g).Perm l) rfl ⟨fun i => l[i]?.getD default, ?_, fun p q h1 h2 => by omega, ?_⟩ hpos ?_ ?_
  · rw [← hn, ← fT_self]
  · rw [← hn, ← fT_self]
  · rintro i _ h1 h2 ⟨g, rfl, hS, hP⟩
    simp only [cond_dec]
    rw [if_pos (by omega)]
    refine Ok.bind_of (P := fun r => ∃ g, r = (fT n g, ()) ∧ SortedI (fun a b => decide (a < b)) g (i + 1) ∧ (fT n g).Perm l) ?_ ?_
    · refine Ok.loop (fun s => ∃ (j : Nat) (g : Nat → Int), s = ((j : Int), fT n g, ()) ∧ j ≤ i ∧ InsI (fun a b => decide (a < b)) g i j ∧ (fT n g).Perm l) (fun s => s.1.toNat) ⟨i, g, rfl, Nat.le_refl _, fun p q hpq hq hne => hS p q hpq (by omega), hP⟩ ?_
      rintro _ ⟨j, g, rfl, hj, hI, hP⟩
      simp only [cond_dec_beq]
      by_cases hj0 : 0 < j
      · have hj1 : j - 1 < n := by omega
        have hj2 : j < n := by omega
        simp (disch := omega) only [if_pos, fT_length, wrap_pred, idxN_nat, atO_fT, Option.bind_some, Less_eq, cond_dec]
        by_cases hlt : g j < g (j - 1)
        · rw [if_pos hlt]
          simp (disch := omega) only [Option.bind_some, fT_length, wrap_pred, idxN_nat, atO_fT, fT_set]
          refine Ok.some_iff.2 ⟨⟨j - 1, swp g j, rfl, by omega, hI.swp SOrd.int hj0 hj (by simpa using hlt), (swp_perm hj0 hj2).trans hP⟩, ?_⟩
          show ((j - 1 : Nat) : Int).toNat < ((j : Nat) : Int).toNat
          omega
        · rw [if_neg hlt]
          exact Ok.some_iff.2 ⟨g, rfl, hI.done SOrd.int hj (.inr (by simpa using hlt)), hP⟩
      · rw [if_neg (by omega)]
        exact Ok.some_iff.2 ⟨g, rfl, hI.done SOrd.int hj (.inl (by omega)), hP⟩
    · rintro _ ⟨g, rfl, hS, hP⟩
      simp (disch := omega) only [wrap_inc]
      exact Ok.some_iff.2 ⟨rfl, g, rfl, hS, hP⟩
  · rintro _ ⟨g, rfl, hS, hP⟩
    simp only [cond_dec]
    rw [if_neg (by omega)]
    exact Ok.some_iff.2 ⟨g, rfl, hS, hP⟩
theorem SortedI.pairwise {g : Nat → Int} {n : Nat} (h : SortedI (fun a b => decide (a < b)) g n) : (fT n g).Pairwise (· ≤ ·) := by
  rw [List.pairwise_iff_getElem]
  intro i j hi hj hij
  rw [fT_getElem, fT_getElem]
  have := h i j hij (by simpa [fT_length] using hj)
  simpa using this
theorem Len_ok (n : Nat) (hn : n ≤ 12) : ∃ b, d_math_bits_Len ((n : Int), ()) = some (b, ()) := by
  have : n = 0 ∨ n = 1 ∨ n = 2 ∨ n = 3 ∨ n = 4 ∨ n = 5 ∨ n = 6 ∨ n = 7 ∨ n = 8 ∨ n = 9 ∨ n = 10 ∨ n = 11 ∨ n = 12 := by omega
  rcases this with rfl | rfl | rfl | rfl | rfl | rfl | rfl | rfl | rfl | rfl | rfl | rfl | rfl
  · exact ⟨0, by kernel_rfl⟩
  · exact ⟨1, by kernel_rfl⟩
  · exact ⟨2, by kernel_rfl⟩
  · exact ⟨2, by kernel_rfl⟩
  · exact ⟨3, by kernel_rfl⟩
  · exact ⟨3, by kernel_rfl⟩
  · exact ⟨3, by kernel_rfl⟩
  · exact ⟨3, by kernel_rfl⟩
  · exact ⟨4, by kernel_rfl⟩
  · exact ⟨4, by kernel_rfl⟩
  · exact ⟨4, by kernel_rfl⟩
  · exact ⟨4, by kernel_rfl⟩
  · exact ⟨4, by kernel_rfl⟩
theorem pdq_small (l : List Int) (b : Int) (hl : l.length ≤ 12) : Ok (d_slices_pdqsortOrdered_int (l, 0, (l.length : Int), b, ())) (fun r => r.1.Pairwise (· ≤ ·) ∧ r.1.Perm l) := by
  obtain ⟨r, hr, g, hg, hS, hP⟩ := insertion_ok l (by omega)
  refine ⟨r, ?_, by rw [hg]; exact hS.pairwise, hP⟩
  unfold d_slices_pdqsortOrdered_int
  show fixO (deep r_slices_pdqsortOrdered_intq_s) _ = some r
  rw [fixO_iff r_slices_pdqsortOrdered_intq_mono]
  refine ⟨1, ?_⟩
  have e1 : deep r_slices_pdqsortOrdered_intq_s 1 (l, 0, (l.length : Int), b, ()) = r_slices_pdqsortOrdered_intq_s (deep r_slices_pdqsortOrdered_intq_s 0) (l, 0, (l.length : Int), b, ()) := rfl
  rw [e1]
  unfold r_slices_pdqsortOrdered_intq_s
  dsimp only
  rw [loop_unfold]
  dsimp only
  have hw : IntKind.i64.wrap ((l.length : Int) - 0) = ((l.length : Nat) : Int) := by rw [Int.sub_zero]; exact wrapN (by omega)
  simp only [hw, cond_dec]
  rw [if_pos (by omega), hr]
  rfl
theorem Sort_ok (l : List Int) (hl : l.length ≤ 12) : Ok (d_slices_Sort_int_int (l, ())) (fun r => r.1.Pairwise (· ≤ ·) ∧ r.1.Perm l) := by
  unfold d_slices_Sort_int_int
  simp only []
  rw [wrapUq_eq _ (by omega) (by omega)]
  obtain ⟨b, hb⟩ := Len_ok l.length hl
  rw [hb]
  simp only [Option.bind_some]
  exact Ok.bind_of (pdq_small l b hl) (fun r hr => Ok.some_iff.2 hr)
end Go.Fw
end

section
namespace Go.Fw
set_option linter.unusedSimpArgs false
set_option linter.unusedVariables false
open Go
theorem compact_lt {ys : List Int} (hs : ys.Pairwise (· ≤ ·)) : (Lib.compact ys).length < ys.length ↔ ¬ ys.Nodup := by
  have hlen : (Lib.compact ys).length = ((List.range ys.length).filter (Lib.keeps ys.toArray)).length := by simp [Lib.compact, Lib.compactUpTo]
  have hadj : (∀ j, j < ys.length → Lib.keeps ys.toArray j = true) ↔ ys.Nodup := by
    have hk : ∀ j, (h : j < ys.length) → (Lib.keeps ys.toArray j = true ↔ j = 0 ∨ ys[j] ≠ ys[j - 1]) := fun j h => by
      have h2 : j - 1 < ys.length := by omega
      simp [Lib.keeps, h, h2]
    constructor
    · intro h
      have hlt : ys.Pairwise (· < ·) := by
        rw [pairwise_iff]
        intro k hk2
        have h1 := (hk (k + 1) hk2).1 (h _ hk2)
        have h2 := List.pairwise_iff_getElem.1 hs k (k + 1) (by omega) hk2 (by omega)
        have h3 : ys[k + 1] ≠ ys[k] := by rcases h1 with h1 | h1; omega; exact h1
        omega
      exact hlt.imp (fun h => by omega)
    · intro h j hj
      rw [hk j hj]
      by_cases h0 : j = 0
      · exact .inl h0
      · refine .inr fun e => ?_
        have := (List.getElem_inj h).1 e
        omega
  rw [← hadj, hlen]
  have hle := List.length_filter_le (Lib.keeps ys.toArray) (List.range ys.length)
  rw [List.length_range] at hle
  constructor
  · intro h h2
    rw [List.filter_eq_self.2 (fun j hj => h2 j (List.mem_range.1 hj)), List.length_range] at h
    omega
  · intro h
    rcases Nat.lt_or_ge ((List.range ys.length).filter (Lib.keeps ys.toArray)).length ys.length with h1 | h1
    · exact h1
    · refine absurd (fun j hj => ?_) h
      have e : ((List.range ys.length).filter (Lib.keeps ys.toArray)).length = (List.range ys.length).length := by rw [List.length_range]; omega
      exact List.length_filter_eq_length_iff.1 e j (List.mem_range.2 hj)
theorem twice_eq (l : List Int) (hl : l.length ≤ 12) : d_graph_twice (l, ()) = some (decide (¬ l.Nodup), ()) := by
  obtain ⟨r, hr, hs, hp⟩ := Sort_ok l hl
  have hlen := hp.length_eq
  unfold d_graph_twice twSem
  simp only [hr, Option.map_some, Option.bind_some]
  rw [show Nat.ble l.length 1000000 = true from Nat.ble_eq_true_of_le (by omega)]
  simp only [cond_true]
  rw [show Nat.ble r.1.length 1000000 = true from Nat.ble_eq_true_of_le (by omega)]
  simp only [cond_true, Option.map_some]
  have e : decide ((Lib.compact r.1).length < l.length) = decide (¬ l.Nodup) := by
    rw [decide_eq_decide, ← hlen, compact_lt hs, hp.nodup_iff]
  rw [e]
end Go.Fw
end

section
namespace Go.Fw
set_option linter.unusedSimpArgs false
set_option linter.unusedVariables false
open Go
def IsPerm (l : List Int) (n : Nat) : Prop := l.length = n ∧ (∀ x ∈ l, 0 ≤ x ∧ x < (n : Int)) ∧ l.Nodup
open Classical in
theorem Perm_eq (l : List Int) (n : Nat) (hn : n ≤ 4294967296) : d_sparsekit_Perm (l, (n : Int), ()) = some (decide (IsPerm l n), ()) := by
  unfold d_sparsekit_Perm
  simp only [bneI]
  by_cases hl : l.length = n
  · rw [decT (show (((l.length : Nat) : Int) = (n : Int)) by omega)]
    simp only [Bool.not_true, cond_false, madeO_ok hn, Option.bind_some, fT_replicate]
    rw [← Ok.eq_iff]
    refine Ok.bind_of (P := fun q => match q with | .inl _ => IsPerm l n | .inr r => r = (false, ()) ∧ ¬ IsPerm l n) ?_ ?_
    · refine Ok.for n (fun i t => t = (fT n (fun v => decide ((v : Int) ∈ l.take i)), ()) ∧ (∀ k, (h : k < l.length) → k < i → 0 ≤ l[k] ∧ l[k] < (n : Int)) ∧ (l.take i).Nodup) (i0 := 0) rfl ⟨by simp, fun k _ h => by omega, by simp⟩ (Nat.zero_le _) ?_ ?_
      · rintro i _ _ hi ⟨rfl, hr, hd⟩
        have hil : i < l.length := by omega
        have hg : getI l (i : Int) = some l[i] := getN_some (List.getElem?_eq_getElem hil)
        have hmem : l[i] ∈ l := List.getElem_mem hil
        simp (disch := omega) only [cond_dec, if_pos, hg, Option.bind_some, cond_dec_beqF]
        by_cases c1 : l[i] < 0
        · rw [if_pos c1]
          exact Ok.some_iff.2 ⟨rfl, fun h => by have := h.2.1 _ hmem; omega⟩
        rw [if_neg c1]
        by_cases c2 : l[i] ≥ (n : Int)
        · rw [if_pos c2]
          exact Ok.some_iff.2 ⟨rfl, fun h => by have := h.2.1 _ hmem; omega⟩
        rw [if_neg c2]
        obtain ⟨x, hx⟩ : ∃ x : Nat, l[i] = (x : Int) := ⟨l[i].toNat, by omega⟩
        have hxn : x < n := by omega
        rw [hx]
        simp (disch := omega) only [fT_length, idxN_nat, Option.bind_some, atO_fT, cond_dec]
        by_cases c3 : (x : Int) ∈ l.take i
        · rw [if_pos c3]
          refine Ok.some_iff.2 ⟨rfl, fun h => ?_⟩
          obtain ⟨m, hm1, hm2⟩ := List.mem_iff_getElem.1 c3
          simp only [List.length_take] at hm1
          simp only [List.getElem_take] at hm2
          have := (List.getElem_inj h.2.2).1 (hm2.trans hx.symm)
          omega
        rw [if_neg c3]
        simp (disch := omega) only [Option.bind_some, hg, hx, fT_length, idxN_nat, atO_fT, fT_set, wrap_inc]
        have ht : l.take (i + 1) = l.take i ++ [(x : Int)] := by rw [← take_snoc hil, hx]
        refine Ok.some_iff.2 ⟨rfl, ?_, fun k hk hki => ?_, ?_⟩
        · show ((_, ()) : _ × Unit) = _
          refine congrArg (·, ()) (fT_congr fun v _ => ?_)
          simp only [upd]
          rw [ht]
          by_cases h : v = x
          · subst h
            rw [if_pos rfl, decT (List.mem_append_right _ (List.mem_singleton_self _))]
          · rw [if_neg h, decide_eq_decide, List.mem_append, List.mem_singleton]
            exact ⟨.inl, fun h' => h'.resolve_right (by omega)⟩
        · by_cases h : k = i
          · subst h; omega
          · exact hr k hk (by omega)
        · rw [ht, List.nodup_append]
          refine ⟨hd, by simp, fun a ha b hb e => ?_⟩
          rw [List.mem_singleton] at hb
          rw [e, hb] at ha; exact c3 ha
      · rintro _ ⟨rfl, hr, hd⟩
        simp (disch := omega) only [cond_dec, if_neg]
        refine Ok.some_iff.2 ⟨hl, fun y hy => ?_, ?_⟩
        · obtain ⟨m, hm, rfl⟩ := List.mem_iff_getElem.1 hy
          exact hr m hm (by omega)
        · rw [List.take_of_length_le (by omega)] at hd; exact hd
    · rintro (q | q) hq
      · exact Ok.some_iff.2 (by rw [decT (show IsPerm l n from hq)])
      · exact Ok.some_iff.2 (by rw [hq.1, decF hq.2])
  · rw [decF (show ¬ (((l.length : Nat) : Int) = (n : Int)) by omega)]
    simp only [Bool.not_false, cond_true]
    rw [decF (fun h => hl h.1)]
noncomputable def permE (adj : List (List Int)) (o : List Int) : Int := open Classical in if chk adj ≠ 0 then chk adj else if o.length ≠ adj.length then 2 else if IsPerm o adj.length then 0 else 90
theorem vertex_eq (adj : List (List Int)) (v : Int) : d_graph_vertex ((adj, ()), v, ()) = some (decide (0 ≤ v ∧ v < (adj.length : Int)), ()) := by
  unfold d_graph_vertex
  simp only [cond_dec_beq]
  by_cases h : v ≥ 0
  · rw [if_pos h]
    congr 2
    exact decide_eq_decide.2 ⟨fun h2 => ⟨h, h2⟩, fun h2 => h2.2⟩
  · rw [if_neg h, decF (fun h2 => h h2.1)]
theorem outside_eq (adj : List (List Int)) (o : List Int) (ho : o.length < 4611686018427387904) : d_slices_ContainsFunc_int_int_q0 (o, ((some (adj, ())), ()), ()) = some (decide (¬ ∀ x ∈ o, 0 ≤ x ∧ x < (adj.length : Int)), ()) := by
  classical
  unfold d_slices_ContainsFunc_int_int_q0 d_slices_IndexFunc_int_int_q0
  simp only []
  rw [← Ok.eq_iff]
  have hall : (∀ x ∈ o, 0 ≤ x ∧ x < (adj.length : Int)) ↔ ∀ i, i < o.length → ∀ h : i < o.length, 0 ≤ o[i] ∧ o[i] < (adj.length : Int) :=
    ⟨fun h i _ hi => h _ (List.getElem_mem hi), fun h x hx => by obtain ⟨i, hi, rfl⟩ := List.mem_iff_getElem.1 hx; exact h i hi hi⟩
  refine Ok.bind_of (P := fun r => decide (r.1 ≥ 0) = decide (¬ ∀ x ∈ o, 0 ≤ x ∧ x < (adj.length : Int))) ?_ (fun r hr => Ok.some_iff.2 (by rw [hr]))
  refine Ok.bind_of (loop_index o.length (fun i => ∀ h : i < o.length, 0 ≤ o[i] ∧ o[i] < (adj.length : Int)) ?_ ?_) ?_
  · intro i hi
    simp (disch := omega) only [cond_dec, if_pos, getN_some (List.getElem?_eq_getElem hi), Option.bind_some, wrap_inc]
    unfold d_graph_Permuted_1q_q0
    simp only [Option.bind_some, vertex_eq]
    by_cases h : 0 ≤ o[i] ∧ o[i] < (adj.length : Int)
    · rw [decT h, if_pos (fun _ => h)]; rfl
    · rw [decF h, if_neg (fun h2 => h (h2 hi))]; rfl
  · simp (disch := omega) only [cond_dec, if_neg]
  · rintro (q | q) hq
    · refine Ok.some_iff.2 ?_
      rw [decF (by decide), decF (fun h => h (hall.2 hq))]
    · refine Ok.some_iff.2 ?_
      rw [decT (show q.1 ≥ 0 from hq.1), decT (show ¬ ∀ x ∈ o, 0 ≤ x ∧ x < (adj.length : Int) from fun h => hq.2 (hall.1 h))]
theorem Permuted_eq {adj : List (List Int)} (hc : ∀ l ∈ adj, l.length < 4611686018427387904) (o : List Int) (ho : adj.length ≤ 200 → Valid adj → adj.length ≤ 12) (ho2 : o.length < 4611686018427387904) :
    d_graph_Permuted ((adj, ()), o, ()) = some (permE adj o, ()) := by
  classical
  unfold d_graph_Permuted permE
  simp only [Check_eq adj hc, Option.bind_some, bneI]
  by_cases h0 : chk adj = 0
  · obtain ⟨hn, hV⟩ := chk_zero.1 h0
    have h12 := ho hn hV
    rw [decT h0]
    simp only [Bool.not_true, cond_false, h0, ne_eq, not_true_eq_false, if_false]
    by_cases hl : o.length = adj.length
    · rw [decT (show (((o.length : Nat) : Int) = ((adj.length : Nat) : Int)) by omega)]
      simp only [Bool.not_true, cond_false, hl, not_true_eq_false, if_false]
      rw [outside_eq adj o ho2]
      simp only [Option.bind_some]
      by_cases h1 : ∀ x ∈ o, 0 ≤ x ∧ x < (adj.length : Int)
      · rw [decF (not_not_intro h1)]
        simp only [beq_self_eq_true, cond_true]
        rw [twice_eq o (by omega)]
        simp only [Option.bind_some, cond_dec]
        by_cases h2 : o.Nodup
        · rw [if_neg (not_not_intro h2), if_pos ⟨hl, h1, h2⟩]
        · rw [if_pos h2, if_neg (fun h => h2 h.2.2)]
      · rw [decT h1, if_neg (fun h => h1 h.2.1)]
        rfl
    · rw [decF (show ¬ (((o.length : Nat) : Int) = ((adj.length : Nat) : Int)) by omega)]
      simp only [Bool.not_false, cond_true, hl, not_false_eq_true, if_true]
  · rw [decF h0]
    simp only [Bool.not_false, cond_true, h0, ne_eq, not_false_eq_true, if_true]
end Go.Fw
end

section
namespace Go.Fw
set_option linter.unusedSimpArgs false
set_option linter.unusedVariables false
open Go
section
variable {adj : List (List Int)} (hc : ∀ l ∈ adj, l.length < 4611686018427387904)
include hc
end
theorem perm_of {adj : List (List Int)} {o : List Int} (h : permE adj o = 0) : adj.length ≤ 200 ∧ Valid adj ∧ IsPerm o adj.length := by
  classical
  have h0 : chk adj = 0 := by
    by_cases hz : chk adj = 0
    · exact hz
    · unfold permE at h; rw [if_pos hz] at h; exact absurd h hz
  obtain ⟨hn, hV⟩ := chk_zero.1 h0
  refine ⟨hn, hV, ?_⟩
  unfold permE at h
  rw [if_neg (not_not_intro h0)] at h
  by_cases hl : o.length = adj.length
  · rw [if_neg (not_not_intro hl)] at h
    by_cases hp : IsPerm o adj.length
    · exact hp
    · rw [if_neg hp] at h; omega
  · rw [if_pos hl] at h; omega
theorem perm_iff {adj : List (List Int)} {o : List Int} (hn : adj.length ≤ 200) (hV : Valid adj) (hp : IsPerm o adj.length) : permE adj o = 0 := by
  unfold permE
  rw [if_neg (not_not_intro (chk_zero.2 ⟨hn, hV⟩)), if_neg (not_not_intro hp.1), if_pos hp]
theorem small20 (adj : List (List Int)) : Ok (d_sparselaw20q_small ((adj, ()), ())) (fun r => r.1 = true → adj.length ≤ 400 ∧ (adj.length ≤ 200 → adj.length ≤ 12) ∧ ∀ l ∈ adj, l.length ≤ 20) := by
  unfold d_sparselaw20q_small
  refine Ok.bind_of (P := fun q => match q with | .inl _ => adj.length ≤ 400 ∧ (adj.length ≤ 200 → adj.length ≤ 12) | .inr r => r = (false, ())) ?_ ?_
  · simp only [cond_dec, cond_dec_beq, cond_dec_beqF]
    refine Ok.ite (fun h1 => Ok.ite (fun h2 => Ok.some_iff.2 rfl) (fun h2 => Ok.ite (fun h3 => Ok.some_iff.2 rfl) (fun h3 => Ok.some_iff.2 ⟨by omega, fun h => by omega⟩))) (fun h1 => Ok.ite (fun h3 => Ok.some_iff.2 rfl) (fun h3 => Ok.some_iff.2 ⟨by omega, fun h => by omega⟩))
  · rintro (q | q) hq
    · refine Ok.bind_of (P := fun q => match q with | .inl _ => ∀ l ∈ adj, l.length ≤ 20 | .inr r => r = (false, ())) ?_ ?_
      · refine Ok.for adj.length (fun i _ => ∀ k, (h : k < adj.length) → k < i → adj[k].length ≤ 20) (i0 := 0) rfl (fun k _ h => by omega) (Nat.zero_le _) ?_ ?_
        · rintro i ⟨⟩ _ hi hI
          simp (disch := omega) only [cond_dec, if_pos, getN_some (List.getElem?_eq_getElem hi), Option.bind_some, wrap_inc]
          refine Ok.ite (fun h => Ok.some_iff.2 rfl) (fun h => Ok.some_iff.2 ⟨rfl, fun k hk hki => ?_⟩)
          by_cases e : k = i
          · subst e; omega
          · exact hI k hk (by omega)
        · rintro ⟨⟩ hI
          simp (disch := omega) only [cond_dec, if_neg]
          exact Ok.some_iff.2 (fun l hl => by obtain ⟨k, hk, rfl⟩ := List.mem_iff_getElem.1 hl; exact hI k hk hk)
      · rintro (r | r) hr
        · exact Ok.some_iff.2 (fun _ => ⟨hq.1, hq.2, hr⟩)
        · have hr : r = (false, ()) := hr
          subst hr
          exact Ok.some_iff.2 (fun h => by cases h)
    · have hq : q = (false, ()) := hq
      subst hq
      exact Ok.some_iff.2 (fun h => by cases h)
end Go.Fw
end

section
namespace Go.Fw
set_option linter.unusedSimpArgs false
set_option linter.unusedVariables false
open Go
def ordN (o : List Int) (k : Nat) : Nat := (o.getD k 0).toNat
theorem IsPerm.get {o : List Int} {n : Nat} (h : IsPerm o n) {k : Nat} (hk : k < n) : getI o (k : Int) = some ((ordN o k : Nat) : Int) ∧ ordN o k < n := by
  have hl : k < o.length := by rw [h.1]; exact hk
  have h1 := h.2.1 _ (List.getElem_mem hl)
  have h2 : ordN o k = o[k].toNat := by unfold ordN; rw [getD_lt hl]
  exact ⟨by rw [getN_some (List.getElem?_eq_getElem hl), h2]; congr 1; omega, by omega⟩
theorem IsPerm.inj {o : List Int} {n : Nat} (h : IsPerm o n) {j k : Nat} (hj : j < n) (hk : k < n) (e : ordN o j = ordN o k) : j = k := by
  have hjl : j < o.length := by rw [h.1]; exact hj
  have hkl : k < o.length := by rw [h.1]; exact hk
  have h1 := h.2.1 _ (List.getElem_mem hjl)
  have h2 := h.2.1 _ (List.getElem_mem hkl)
  unfold ordN at e
  rw [getD_lt hjl, getD_lt hkl] at e
  exact (List.getElem_inj h.2.2).1 (by omega)
end Go.Fw
end

section
namespace Go.Fw
set_option linter.unusedSimpArgs false
set_option linter.unusedVariables false
open Go
open Classical in
noncomputable def cT (n : Nat) (P : Nat → Prop) : List Bool := fT n fun v => decide (P v)
theorem cT_length (n : Nat) (P : Nat → Prop) : (cT n P).length = n := fT_length n _
theorem cT_congr {n : Nat} {P Q : Nat → Prop} (h : ∀ v, v < n → (P v ↔ Q v)) : cT n P = cT n Q := fT_congr fun v hv => decide_eq_decide.2 (h v hv)
theorem cT_none (n : Nat) : List.replicate n false = cT n fun _ => False := by
  classical
  rw [fT_replicate]; exact fT_congr fun v _ => by simp
theorem cT_set {n k : Nat} {P : Nat → Prop} : (cT n P).set k true = cT n fun v => P v ∨ v = k := by
  classical
  unfold cT
  rw [fT_set]
  refine fT_congr fun v _ => ?_
  unfold upd
  by_cases h : v = k
  · rw [if_pos h]; simp [h]
  · rw [if_neg h]; simp [h]
open Classical in
theorem cT_at {α : Type} {n k : Nat} {P : Nat → Prop} {f : Bool → Option α} (h : k < n) : atO (cT n P) k f = f (decide (P k)) := atO_fT h
theorem cond_not_dec {α : Type} {p : Prop} [Decidable p] {x y : α} : (bif !decide p then x else y) = if p then y else x := by
  by_cases h : p <;> simp [h]
theorem nodup_le : ∀ {n : Nat} {l : List Nat}, l.Nodup → (∀ x ∈ l, x < n) → l.length ≤ n := by
  intro n
  induction n with
  | zero => intro l _ h; cases l with
    | nil => exact Nat.le_refl _
    | cons a l => exact absurd (h a (List.mem_cons_self ..)) (by omega)
  | succ n ih =>
    intro l hd h
    have h1 : (l.erase n).Nodup := hd.erase n
    have h2 : ∀ x ∈ l.erase n, x < n := fun x hx => by
      have h3 := h x (List.mem_of_mem_erase hx)
      have h4 : x ≠ n := fun e => by subst e; exact (hd.mem_erase_iff.1 hx).1 rfl
      omega
    have h3 := ih h1 h2
    by_cases hm : n ∈ l
    · rw [List.length_erase_of_mem hm] at h3; omega
    · rw [List.erase_of_not_mem hm] at h3; omega
theorem mem_natL {l : List Nat} {x : Nat} : (x : Int) ∈ natL l ↔ x ∈ l := by
  unfold natL
  rw [List.mem_map]
  constructor
  · rintro ⟨y, h1, h2⟩
    obtain rfl : y = x := by omega
    exact h1
  · exact fun h => ⟨x, h, rfl⟩
theorem natL_nodup {l : List Nat} (h : l.Nodup) : (natL l).Nodup := by
  unfold natL
  rw [List.nodup_iff_pairwise_ne, List.pairwise_map]
  exact (List.nodup_iff_pairwise_ne.1 h).imp fun h e => h (by omega)
structure IsK (adj : List (List Int)) (root K : Nat) : Prop where
  le : K ≤ adj.length
  ne : ∀ k, k < K → levV adj root k ≠ []
  em : levV adj root K = []
theorem IsK.uniq {adj : List (List Int)} {r K K' : Nat} (h : IsK adj r K) (h' : IsK adj r K') : K = K' := by
  rcases Nat.lt_trichotomy K K' with a | a | a
  · exact absurd h.em (h'.ne _ a)
  · exact a
  · exact absurd h'.em (h.ne _ a)
open Classical in
noncomputable def levN (adj : List (List Int)) (root : Nat) : Nat := if h : ∃ K, IsK adj root K then h.choose else 0
noncomputable def levL (adj : List (List Int)) (root : Nat) : List (List Int) := (List.range (levN adj root)).map (levV adj root)
theorem IsK.eq {adj : List (List Int)} {r K : Nat} (h : IsK adj r K) : levN adj r = K := by
  unfold levN
  rw [dif_pos ⟨K, h⟩]
  exact (Exists.choose_spec (p := fun K => IsK adj r K) ⟨K, h⟩).uniq h
section
variable {adj : List (List Int)} (hV : Valid adj)
include hV
theorem levN_is (hn : adj.length ≤ 200) {root : Nat} (hr : root < adj.length) : IsK adj root (levN adj root) := by
  obtain ⟨r, _, K, h1, h2, h3, h4⟩ := Levels_ok hV (hV.hc hn) hn hr
  have : IsK adj root K := ⟨h1, h3, h4⟩
  rw [this.eq]; exact this
theorem refLevels_eq (hn : adj.length ≤ 200) {root : Nat} (hr : root < adj.length) : d_sparseref12q_Levels ((adj, ()), (root : Int), ()) = some (levL adj root, ()) := by
  rw [← Ok.eq_iff]
  refine (Levels_ok hV (hV.hc hn) hn hr).mono ?_
  rintro ⟨r, ⟨⟩⟩ ⟨K, h1, h2, h3, h4⟩
  have : IsK adj root K := ⟨h1, h3, h4⟩
  simp only at h2
  rw [h2]; unfold levL; rw [this.eq]
def RchK (adj : List (List Int)) (root k v : Nat) : Prop := ∃ k', k' ≤ k ∧ PathN (Nb adj) root k' v
omit hV in
def Nxt (adj : List (List Int)) (R : Nat → Prop) (D : Nat → Prop) (nx : List Nat) : Prop := nx.Nodup ∧ ∀ x, x ∈ nx ↔ ¬ R x ∧ D x
omit hV in
theorem Nxt.lt {R D : Nat → Prop} {nx : List Nat} (h : Nxt adj R D nx) {n : Nat} (hD : ∀ x, D x → x < n) : nx.length ≤ n := nodup_le h.1 fun x hx => hD x ((h.2 x).1 hx).2
omit hV in
theorem Nxt.congr {R D D' : Nat → Prop} {nx : List Nat} (h : Nxt adj R D nx) (hD : ∀ x, D x ↔ D' x) : Nxt adj R D' nx := ⟨h.1, fun x => by rw [h.2 x, hD x]⟩
omit hV in
theorem Nxt.add {R D D' : Nat → Prop} {nx : List Nat} (h : Nxt adj R D nx) {w : Nat} (hw : ¬ (R w ∨ w ∈ nx)) (hD : ∀ x, D' x ↔ D x ∨ x = w) : Nxt adj R D' (nx ++ [w]) := by
  refine ⟨List.nodup_append.2 ⟨h.1, by simp, fun a ha b hb e => ?_⟩, fun x => ?_⟩
  · rw [List.mem_singleton] at hb
    subst hb; subst e; exact hw (.inr ha)
  · rw [List.mem_append, List.mem_singleton, h.2 x, hD x]
    constructor
    · rintro (⟨h1, h2⟩ | rfl)
      · exact ⟨h1, .inl h2⟩
      · exact ⟨fun h => hw (.inl h), .inr rfl⟩
    · rintro ⟨h1, h2 | h2⟩
      · exact .inl ⟨h1, h2⟩
      · exact .inr h2
omit hV in
theorem Nxt.old {R D D' : Nat → Prop} {nx : List Nat} (h : Nxt adj R D nx) {w : Nat} (hw : R w ∨ w ∈ nx) (hD : ∀ x, D' x ↔ D x ∨ x = w) : Nxt adj R D' nx := by
  refine ⟨h.1, fun x => ?_⟩
  rw [h.2 x, hD x]
  constructor
  · rintro ⟨h1, h2⟩; exact ⟨h1, .inl h2⟩
  · rintro ⟨h1, h2 | rfl⟩
    · exact ⟨h1, h2⟩
    · exact ⟨h1, ((h.2 x).1 (hw.resolve_left h1)).2⟩
theorem nb_get {v j : Nat} (hv : v < adj.length) (hj : j < adj[v].length) : ∃ w : Nat, adj[v][j] = (w : Int) ∧ w < adj.length := by
  have hr := (hV.asc v hv).2 _ (List.getElem_mem hj)
  exact ⟨adj[v][j].toNat, by omega, by omega⟩
omit hV in
theorem take_mem_succ {l : List Int} {j w : Nat} (hj : j < l.length) (hw : l[j] = (w : Int)) (x : Nat) : (x : Int) ∈ l.take (j + 1) ↔ (x : Int) ∈ l.take j ∨ x = w := by
  rw [← take_snoc hj, List.mem_append, List.mem_singleton, hw]
  exact ⟨fun h => h.imp id (fun h => by omega), fun h => h.imp id (fun h => by omega)⟩
omit hV in
theorem sort_unique {r l : List Int} {m : List Nat} (hs : r.Pairwise (· ≤ ·)) (hp : r.Perm (natL m)) (hm : m.Nodup) (hl : l.Pairwise (· < ·)) (he : ∀ x, x ∈ l ↔ x ∈ natL m) : r = l := by
  have hrd : r.Nodup := hp.nodup_iff.2 (natL_nodup hm)
  refine sorted_ext ?_ hl (fun x => by rw [hp.mem_iff, he])
  exact (List.Pairwise.and hs (List.nodup_iff_pairwise_ne.1 hrd)).imp fun h => by omega
theorem levels_eq (hn : adj.length ≤ 12) {root : Nat} (hr : root < adj.length) : d_graph_levels ((adj, ()), (root : Int), ()) = some (levL adj root, ()) := by
  classical
  rw [← Ok.eq_iff]
  have hK := levN_is hV (by omega) hr
  unfold d_graph_levels
  simp (disch := omega) only [madeO_ok, Option.bind_some, cT_none, cT_length, idxN_nat, cT_at, cT_set]
  refine Ok.bind_of (P := fun r => r = (levL adj root, ())) ?_ (by rintro _ rfl; exact Ok.some_iff.2 rfl)
  refine Ok.loop (fun s => ∃ k, s = (levV adj root k, cT adj.length (RchK adj root k), (List.range k).map (levV adj root), ()) ∧ k ≤ levN adj root) (fun s => levN adj root - s.2.2.1.length) ⟨0, ?_, Nat.zero_le _⟩ ?_
  · rw [levV_zero adj root hr]
    refine congrArg (fun a => ([(root : Int)], a, ([] : List (List Int)), ())) (cT_congr fun v _ => ?_)
    constructor
    · rintro (h | rfl)
      · exact h.elim
      · exact ⟨0, Nat.le_refl _, .zero⟩
    · rintro ⟨k', hk, hp⟩
      obtain rfl : k' = 0 := by omega
      cases hp
      exact .inr rfl
  · rintro _ ⟨k, rfl, hk⟩
    simp only [cond_dec]
    refine Ok.ite (fun hpos => ?_) (fun hz => ?_)
    rotate_left
    · have hem : levV adj root k = [] := List.eq_nil_of_length_eq_zero (by omega)
      refine Ok.some_iff.2 ?_
      have hkK : ¬ k < levN adj root := fun h => hK.ne k h hem
      obtain rfl : k = levN adj root := by omega
      rfl
    have hkl : k < levN adj root := by
      rcases Nat.lt_or_ge k (levN adj root) with h | h
      · exact h
      · obtain rfl : k = levN adj root := by omega
        rw [hK.em] at hpos; simp at hpos
    have hKn := hK.le
    have hll := levV_length adj root k
    simp (disch := first | omega | (simp; omega)) only [limO_ok, Option.bind_some]
    have hD : ∀ i x, (∃ m : Nat, (m : Int) ∈ (levV adj root k).take i ∧ Nb adj m x) → x < adj.length := fun i x ⟨m, _, h⟩ => (h.lt hV).2
    refine Ok.bind_of (P := fun q => ∃ nx, q = (cT adj.length (RchK adj root (k + 1)), (List.range (k + 1)).map (levV adj root), natL nx, ()) ∧ nx.Nodup ∧ ∀ x, x ∈ nx ↔ AtK (Nb adj) root (k + 1) x) ?_ ?_
    · refine Ok.for (i0 := 0) (levV adj root k).length (fun i t => ∃ nx, t = (cT adj.length (fun v => RchK adj root k v ∨ v ∈ nx), (List.range k).map (levV adj root) ++ [levV adj root k], natL nx, ()) ∧ Nxt adj (RchK adj root k) (fun x => ∃ m : Nat, (m : Int) ∈ (levV adj root k).take i ∧ Nb adj m x) nx) rfl ⟨[], ?_, by simp, fun x => by simp⟩ (Nat.zero_le _) ?_ ?_
      · exact congrArg (fun a => (a, _)) (cT_congr fun v _ => by simp)
      · rintro i _ _ hi ⟨nx, rfl, hN⟩
        obtain ⟨v, hv1, hv2, hv3⟩ := mem_levV' (List.getElem_mem hi)
        have hgl : getI (levV adj root k) (i : Int) = some (v : Int) := getN_some (by rw [List.getElem?_eq_getElem hi, hv1])
        have hga : getI adj (v : Int) = some adj[v] := getN_some (List.getElem?_eq_getElem hv2)
        have hvl := (hV.asc v hv2).length
        simp (disch := omega) only [cond_dec, if_pos, hgl, hga, Option.bind_some]
        refine Ok.bind_of (P := fun q => ∃ nx, q = (cT adj.length (fun v => RchK adj root k v ∨ v ∈ nx), (List.range k).map (levV adj root) ++ [levV adj root k], natL nx, ()) ∧ Nxt adj (RchK adj root k) (fun x => ∃ m : Nat, (m : Int) ∈ (levV adj root k).take (i + 1) ∧ Nb adj m x) nx) ?_ ?_
        · refine Ok.for (i0 := 0) adj[v].length (fun j t => ∃ nx, t = (cT adj.length (fun v => RchK adj root k v ∨ v ∈ nx), (List.range k).map (levV adj root) ++ [levV adj root k], natL nx, ()) ∧ Nxt adj (RchK adj root k) (fun x => (∃ m : Nat, (m : Int) ∈ (levV adj root k).take i ∧ Nb adj m x) ∨ (x : Int) ∈ adj[v].take j) nx) rfl ⟨nx, rfl, hN.congr fun x => by simp⟩ (Nat.zero_le _) ?_ ?_
          · rintro j _ _ hj ⟨nx, rfl, hN⟩
            obtain ⟨w, hw, hwn⟩ := nb_get hV hv2 hj
            have hgj : getI adj[v] (j : Int) = some (w : Int) := getN_some (by rw [List.getElem?_eq_getElem hj, hw])
            have hlen := hN.lt (n := adj.length) (fun x hx => by
              rcases hx with hx | hx
              · exact hD i x hx
              · have := (hV.asc v hv2).2 _ (List.mem_of_mem_take hx); omega)
            have hDD : ∀ x, ((∃ m : Nat, (m : Int) ∈ (levV adj root k).take i ∧ Nb adj m x) ∨ (x : Int) ∈ adj[v].take (j + 1)) ↔ (((∃ m : Nat, (m : Int) ∈ (levV adj root k).take i ∧ Nb adj m x) ∨ (x : Int) ∈ adj[v].take j) ∨ x = w) := fun x => by
              rw [take_mem_succ hj hw, or_assoc]
            simp (disch := omega) only [cond_dec, if_pos, hgj, cT_length, idxN_nat, cT_at, Option.bind_some, cond_not_dec]
            by_cases hs : RchK adj root k w ∨ w ∈ nx
            · rw [if_pos hs]
              simp (disch := omega) only [Option.bind_some, wrap_inc]
              exact Ok.some_iff.2 ⟨rfl, nx, rfl, hN.old hs hDD⟩
            · rw [if_neg hs]
              simp (disch := first | omega | (simp [natL_length]; omega)) only [Option.bind_some, limO_ok, cT_at, cT_set, idxN_nat, cT_length, wrap_inc]
              refine Ok.some_iff.2 ⟨rfl, nx ++ [w], ?_, hN.add hs hDD⟩
              rw [natL_append]
              exact congrArg (fun a => (a, _)) (cT_congr fun x _ => by rw [List.mem_append, List.mem_singleton, or_assoc])
          · rintro _ ⟨nx, rfl, hN⟩
            simp (disch := omega) only [cond_dec, if_neg]
            refine Ok.some_iff.2 ⟨nx, rfl, hN.congr fun x => ?_⟩
            rw [List.take_length, ← take_snoc hi, hv1]
            simp only [List.mem_append, List.mem_singleton]
            constructor
            · rintro (⟨m, h5, h6⟩ | h5)
              · exact ⟨m, .inl h5, h6⟩
              · exact ⟨v, .inr rfl, hv2, h5⟩
            · rintro ⟨m, h5 | h5, h6⟩
              · exact .inl ⟨m, h5, h6⟩
              · obtain rfl : m = v := by omega
                exact .inr h6.2
        · rintro _ ⟨nx, rfl, hN⟩
          simp (disch := omega) only [wrap_inc]
          exact Ok.some_iff.2 ⟨rfl, nx, rfl, hN⟩
      · rintro _ ⟨nx, rfl, hN⟩
        simp (disch := omega) only [cond_dec, if_neg]
        have hx : ∀ x, x ∈ nx ↔ AtK (Nb adj) root (k + 1) x := by
          intro x
          rw [hN.2 x, List.take_length, AtK.succ_iff, and_comm]
          refine and_congr ?_ ?_
          · simp only [mem_levV hV hr]
          · exact ⟨fun h k' hk' hp => h ⟨k', hk', hp⟩, fun h ⟨k', hk', hp⟩ => h k' hk' hp⟩
        refine Ok.some_iff.2 ⟨nx, ?_, hN.1, hx⟩
        rw [List.range_succ, List.map_append]
        refine congrArg (fun a => (a, _)) (cT_congr fun v _ => ?_)
        rw [hx v]
        constructor
        · rintro (⟨k', h1, h2⟩ | h)
          · exact ⟨k', by omega, h2⟩
          · exact ⟨k + 1, Nat.le_refl _, h.1⟩
        · rintro ⟨k', h1, h2⟩
          by_cases h : RchK adj root k v
          · exact .inl h
          · refine .inr ?_
            have : k' = k + 1 := by
              rcases Nat.lt_or_ge k' (k + 1) with h3 | h3
              · exact absurd ⟨k', by omega, h2⟩ h
              · omega
            subst this
            exact ⟨h2, fun k'' h2 h3 => h ⟨k'', by omega, h3⟩⟩
    · rintro _ ⟨nx, rfl, hd, hx⟩
      have hlen : nx.length ≤ adj.length := nodup_le hd fun x h => ((hx x).1 h).1.lt hV hr
      refine Ok.bind_of (Sort_ok (natL nx) (by rw [natL_length]; omega)) ?_
      rintro ⟨r, ⟨⟩⟩ ⟨h1, h2⟩
      simp only at h1 h2
      have hrr : r = levV adj root (k + 1) := sort_unique h1 h2 hd (sorted_filter _ _) (fun x => by
        constructor
        · intro h
          obtain ⟨v, rfl, _, h4⟩ := mem_levV' h
          exact mem_natL.2 ((hx v).2 h4)
        · intro h
          obtain ⟨v, h3, rfl⟩ := List.mem_map.1 h
          exact (mem_levV hV hr).2 ((hx v).1 h3))
      subst hrr
      refine Ok.some_iff.2 ⟨⟨k + 1, rfl, hkl⟩, ?_⟩
      simp only [List.length_map, List.length_range]
      omega
end
end Go.Fw
end

section
set_option linter.unusedSimpArgs false
set_option linter.unusedVariables false
namespace Go.Fw
theorem PathN.cons {A : Nat → Nat → Prop} {u m v k : Nat} (h : A u m) (hp : PathN A m k v) : PathN A u (k + 1) v := by
  induction hp with
  | zero => exact .succ .zero h
  | succ _ ha ih => exact .succ ih ha
end Go.Fw
end

section
namespace Go.Fw
set_option linter.unusedSimpArgs false
set_option linter.unusedVariables false
open Go
theorem Ok.seq {σ ρ : Type} {f : σ → Option (σ ⊕ ρ)} {Q : ρ → Prop} {s0 : σ} (n : Nat) (I : Nat → σ → Prop) (i0 : Nat) (h0 : I i0 s0) (hi : i0 ≤ n)
    (hstep : ∀ i s, i0 ≤ i → i < n → I i s → Ok (f s) (fun | .inl s' => I (i + 1) s' | .inr r => Q r))
    (hend : ∀ s, I n s → Ok (f s) (fun | .inl _ => False | .inr r => Q r)) : Ok (Fw.loop f s0) Q := by
  obtain ⟨d, hd⟩ : ∃ d, n = i0 + d := ⟨n - i0, by omega⟩
  induction d generalizing i0 s0 with
  | zero =>
    obtain rfl : n = i0 := by omega
    rw [loop_unfold]
    obtain ⟨y, hy, hq⟩ := hend s0 h0
    rw [hy]
    cases y with
    | inl => exact hq.elim
    | inr r => exact Ok.some_iff.2 hq
  | succ d ih =>
    rw [loop_unfold]
    obtain ⟨y, hy, hq⟩ := hstep i0 s0 (Nat.le_refl _) (by omega) h0
    rw [hy]
    cases y with
    | inl s' => exact ih (i0 + 1) hq (by omega) (fun i s h => hstep i s (by omega)) (by omega)
    | inr r => exact Ok.some_iff.2 hq
theorem loop_seq {σ ρ : Type} {f : σ → Option (σ ⊕ ρ)} {r : ρ} {s0 : σ} (n : Nat) (I : Nat → σ) (i0 : Nat) (hs : s0 = I i0) (hi : i0 ≤ n)
    (hstep : ∀ i, i0 ≤ i → i < n → f (I i) = some (.inl (I (i + 1)))) (hend : f (I n) = some (.inr r)) : loop f s0 = some r := by
  rw [← Ok.eq_iff]
  refine Ok.seq n (fun i s => s = I i) i0 hs hi ?_ ?_
  · rintro i _ h1 h2 rfl
    rw [hstep i h1 h2]
    exact Ok.some_iff.2 rfl
  · rintro _ rfl
    rw [hend]
    exact Ok.some_iff.2 rfl
theorem bindR {α β : Type} {x : Option α} {g : α → Option β} {r : Option β} (y : α) (h2 : g y = r) (h : x = some y) : x.bind g = r := by rw [h]; exact h2
theorem Grow_eq {k : Nat} (h : k ≤ 1000000) : d_slices_Grow_int_int ((), (k : Int), ()) = some ([], ()) := by
  unfold d_slices_Grow_int_int grSem
  have h1 : (0 : Int) ≤ k := by omega
  have h2 : (k : Int) ≤ 1000000 := by omega
  simp only [h1, h2, decide_true, Bool.and_true, cond_true, Option.map_some]
theorem Concat_eq (l : List (List Int)) (h : l.flatten.length ≤ 1000000) (hl : l.length ≤ 1000000) : d_slices_Concat_int_int (l, ()) = some (l.flatten, ()) := by
  have hle : ∀ i, (l.take i).flatten.length ≤ 1000000 := fun i => by
    refine Nat.le_trans ?_ h
    conv => rhs; rw [← List.take_append_drop i l, List.flatten_append, List.length_append]
    omega
  have hsu : ∀ i, (hi : i < l.length) → (l.take (i + 1)).flatten = (l.take i).flatten ++ l[i] := fun i hi => by
    rw [← take_snoc hi, List.flatten_append]; simp
  unfold d_slices_Concat_int_int
  dsimp only
  refine bindR (((l.flatten.length : Int), ())) ?_ (loop_seq l.length (fun i => (((l.take i).flatten.length : Int), (i : Int), ())) 0 (by simp) (Nat.zero_le _) ?_ ?_)
  · simp only [Option.bind_some, Grow_eq h]
    refine bindR ((l.flatten, ())) ?_ (loop_for l.length (fun i => ((l.take i).flatten, ())) 0 rfl (by simp) (Nat.zero_le _) ?_ ?_)
    · rfl
    · intro i _ hi
      have hg : getI l (i : Int) = some l[i] := getN_some (List.getElem?_eq_getElem hi)
      have h3 := hle (i + 1)
      rw [hsu i hi, List.length_append] at h3
      simp (disch := omega) only [cond_dec, if_pos, hg, Option.bind_some, limO_ok, wrap_inc, hsu i hi]
    · simp (disch := omega) only [cond_dec, if_neg, List.take_length]
  · intro i _ hi
    have hg : getI l (i : Int) = some l[i] := getN_some (List.getElem?_eq_getElem hi)
    have h3 := hle (i + 1)
    rw [hsu i hi, List.length_append] at h3
    simp (disch := omega) only [cond_dec, if_pos, hg, Option.bind_some, wrap_add, if_neg, wrap_inc, hsu i hi, List.length_append]
  · simp (disch := omega) only [cond_dec, if_neg, List.take_length]
theorem PathN.trans {A : Nat → Nat → Prop} {u v w k l : Nat} (h : PathN A u k v) (h2 : PathN A v l w) : PathN A u (k + l) w := by
  induction h2 with
  | zero => exact h
  | succ _ ha ih => exact .succ ih ha
theorem PathN.symm {A : Nat → Nat → Prop} (hA : ∀ a b, A a b → A b a) {u v k : Nat} (h : PathN A u k v) : PathN A v k u := by
  induction h with
  | zero => exact .zero
  | succ _ ha ih => exact ih.cons (hA _ _ ha)
def Rc (adj : List (List Int)) (u w : Nat) : Prop := ∃ k, PathN (Nb adj) u k w
theorem Rc.refl (adj : List (List Int)) (u : Nat) : Rc adj u u := ⟨0, .zero⟩
theorem Rc.trans {adj : List (List Int)} {u v w : Nat} (h : Rc adj u v) (h2 : Rc adj v w) : Rc adj u w := let ⟨_, a⟩ := h; let ⟨_, b⟩ := h2; ⟨_, a.trans b⟩
theorem Rc.symm {adj : List (List Int)} (hV : Valid adj) {u v : Nat} (h : Rc adj u v) : Rc adj v u := let ⟨k, a⟩ := h; ⟨k, a.symm (Nb.symm hV)⟩
theorem Rc.lt {adj : List (List Int)} (hV : Valid adj) {u v : Nat} (hu : u < adj.length) (h : Rc adj u v) : v < adj.length := let ⟨_, a⟩ := h; a.lt hV hu
theorem AtK.uniq {A : Nat → Nat → Prop} {u k k' v : Nat} (h : AtK A u k v) (h' : AtK A u k' v) : k = k' := by
  rcases Nat.lt_trichotomy k k' with a | a | a
  · exact absurd h.1 (h'.2 _ a)
  · exact a
  · exact absurd h'.1 (h.2 _ a)
open Classical in
noncomputable def cmpN (adj : List (List Int)) (v : Nat) : List Nat := (List.range adj.length).filter fun w => decide (Rc adj v w)
noncomputable def cmpV (adj : List (List Int)) (v : Nat) : List Int := natL (cmpN adj v)
def Fst (adj : List (List Int)) (v : Nat) : Prop := ∀ u, u < v → ¬ Rc adj u v
open Classical in
noncomputable def fstN (adj : List (List Int)) (k : Nat) : List Nat := (List.range k).filter fun v => decide (Fst adj v)
noncomputable def cmpL (adj : List (List Int)) (k : Nat) : List (List Int) := (fstN adj k).map (cmpV adj)
theorem cmpL_succ (adj : List (List Int)) (k : Nat) : cmpL adj (k + 1) = cmpL adj k ++ (open Classical in if Fst adj k then [cmpV adj k] else []) := by
  classical
  unfold cmpL fstN
  rw [List.range_succ, List.filter_append, List.map_append]
  by_cases h : Fst adj k <;> simp [h]
theorem cmpL_length (adj : List (List Int)) (k : Nat) : (cmpL adj k).length ≤ k := by
  unfold cmpL fstN
  rw [List.length_map]
  exact Nat.le_trans (List.length_filter_le _ _) (by simp)
theorem mem_cmpN {adj : List (List Int)} (hV : Valid adj) {v x : Nat} (hv : v < adj.length) : x ∈ cmpN adj v ↔ Rc adj v x := by
  unfold cmpN
  simp only [List.mem_filter, List.mem_range, decide_eq_true_eq]
  exact ⟨fun h => h.2, fun h => ⟨h.lt hV hv, h⟩⟩
theorem cmpV_asc (adj : List (List Int)) (v : Nat) : (cmpV adj v).Pairwise (· < ·) := sorted_filter _ _
theorem cmpN_length (adj : List (List Int)) (v : Nat) : (cmpN adj v).length ≤ adj.length := by
  unfold cmpN
  exact Nat.le_trans (List.length_filter_le _ _) (by simp)
theorem cmpV_length (adj : List (List Int)) (v : Nat) : (cmpV adj v).length ≤ adj.length := by
  unfold cmpV; rw [natL_length]; exact cmpN_length adj v
theorem Sort_eq {m : List Nat} (hm : m.Nodup) (h12 : m.length ≤ 12) {l : List Int} (hl : l.Pairwise (· < ·)) (he : ∀ x, x ∈ l ↔ x ∈ natL m) : d_slices_Sort_int_int (natL m, ()) = some (l, ()) := by
  rw [← Ok.eq_iff]
  refine (Sort_ok (natL m) (by rw [natL_length]; exact h12)).mono ?_
  rintro ⟨r, ⟨⟩⟩ ⟨h1, h2⟩
  rw [show r = l from sort_unique h1 h2 hm hl he]
section
variable {adj : List (List Int)} (hV : Valid adj)
include hV
open Classical in
noncomputable def levM (adj : List (List Int)) (root : Nat) : List Nat := ((List.range (levN adj root)).map fun k => (List.range adj.length).filter fun v => decide (AtK (Nb adj) root k v)).flatten
omit hV in
theorem levL_flatten (root : Nat) : (levL adj root).flatten = natL (levM adj root) := by
  unfold levL levM natL levV
  rw [List.map_flatten, List.map_map]
  rfl
theorem levM_nodup (root : Nat) : (levM adj root).Nodup := by
  classical
  unfold levM
  rw [List.nodup_iff_pairwise_ne, List.pairwise_flatten]
  refine ⟨fun l hl => ?_, ?_⟩
  · obtain ⟨k, _, rfl⟩ := List.mem_map.1 hl
    exact List.nodup_iff_pairwise_ne.1 (List.Pairwise.filter _ List.nodup_range)
  · rw [List.pairwise_map]
    refine (List.nodup_iff_pairwise_ne.1 List.nodup_range).imp ?_
    intro a b hab x hx y hy e
    subst e
    simp only [List.mem_filter, decide_eq_true_eq] at hx hy
    exact hab (hx.2.uniq hy.2)
theorem lev_lt (hn : adj.length ≤ 200) {root k v : Nat} (hr : root < adj.length) (h : AtK (Nb adj) root k v) : k < levN adj root := by
  have hK := levN_is hV hn hr
  rcases Nat.lt_or_ge k (levN adj root) with h1 | h1
  · exact h1
  · obtain ⟨d, rfl⟩ : ∃ d, k = levN adj root + d := ⟨k - levN adj root, by omega⟩
    refine absurd h (AtK.empty (fun w hw => ?_) d v)
    have := (mem_levV hV hr).2 hw
    rw [hK.em] at this
    cases this
theorem mem_levM (hn : adj.length ≤ 200) {root x : Nat} (hr : root < adj.length) : x ∈ levM adj root ↔ Rc adj root x := by
  classical
  unfold levM
  simp only [List.mem_flatten, List.mem_map, List.mem_range]
  constructor
  · rintro ⟨_, ⟨k, hk, rfl⟩, hx⟩
    simp only [List.mem_filter, decide_eq_true_eq] at hx
    exact ⟨k, hx.2.1⟩
  · rintro ⟨k, hk⟩
    obtain ⟨k', _, h⟩ := AtK.exists hk
    refine ⟨_, ⟨k', lev_lt hV hn hr h, rfl⟩, ?_⟩
    simp only [List.mem_filter, List.mem_range, decide_eq_true_eq]
    exact ⟨hk.lt hV hr, h⟩
theorem levM_length (hn : adj.length ≤ 200) {root : Nat} (hr : root < adj.length) : (levM adj root).length ≤ adj.length :=
  nodup_le (levM_nodup hV root) fun x hx => ((mem_levM hV hn hr).1 hx).lt hV hr
def Met (adj : List (List Int)) (k x : Nat) : Prop := ∃ u, u < k ∧ Rc adj u x
omit hV in
theorem Met.not_fst {k : Nat} : Met adj k k ↔ ¬ Fst adj k := by
  unfold Met Fst
  constructor
  · rintro ⟨u, h1, h2⟩ h; exact h u h1 h2
  · intro h
    apply Classical.byContradiction
    intro h2
    exact h fun u hu hr => h2 ⟨u, hu, hr⟩
omit hV in
theorem Met.succ {k x : Nat} : Met adj (k + 1) x ↔ Met adj k x ∨ Rc adj k x := by
  constructor
  · rintro ⟨u, h1, h2⟩
    rcases Nat.lt_or_ge u k with h | h
    · exact .inl ⟨u, h, h2⟩
    · obtain rfl : u = k := by omega
      exact .inr h2
  · rintro (⟨u, h1, h2⟩ | h)
    · exact ⟨u, by omega, h2⟩
    · exact ⟨k, by omega, h⟩
omit hV in
theorem Met.old {k x : Nat} (h : Met adj k k) : Met adj (k + 1) x ↔ Met adj k x := by
  rw [Met.succ]
  exact ⟨fun h2 => h2.elim id fun h2 => let ⟨u, h3, h4⟩ := h; ⟨u, h3, h4.trans h2⟩, .inl⟩
theorem Components_eq (hn : adj.length ≤ 12) : d_graph_Components ((adj, ()), ()) = some (cmpL adj adj.length, ()) := by
  classical
  unfold d_graph_Components
  have h0 : chk adj = 0 := chk_zero.2 ⟨by omega, hV⟩
  simp only [Check_eq adj (hV.hc (by omega)), Option.bind_some, h0, bne_self_eq_false, cond_false]
  simp (disch := omega) only [madeO_ok, Option.bind_some, cT_none]
  refine bindR ((cmpL adj adj.length, ())) ?_ (loop_for adj.length (fun i => (cT adj.length (Met adj i), cmpL adj i, ())) 0 rfl ?_ (Nat.zero_le _) ?_ ?_)
  · rfl
  · exact congrArg (fun a => (a, ([] : List (List Int)), ())) (cT_congr fun v _ => ⟨fun h => h.elim, fun ⟨u, h, _⟩ => by omega⟩)
  · intro k _ hk
    simp (disch := omega) only [cond_dec, if_pos, cT_length, idxN_nat, cT_at, Option.bind_some]
    by_cases hm : Met adj k k
    · rw [if_pos hm]
      simp (disch := omega) only [Option.bind_some, wrap_inc]
      rw [cmpL_succ, if_neg (Met.not_fst.1 hm), List.append_nil]
      exact congrArg (fun a => some (Sum.inl (((k + 1 : Nat) : Int), a, cmpL adj k, ()))) (cT_congr fun v _ => (Met.old hm).symm)
    · rw [if_neg hm]
      have hf : Fst adj k := Classical.byContradiction fun h => hm (Met.not_fst.2 h)
      have hml := levM_length hV (by omega) hk
      have hll : (levL adj k).length ≤ adj.length := by unfold levL; simp; exact (levN_is hV (by omega) hk).le
      have hlf : (levL adj k).flatten.length ≤ adj.length := by rw [levL_flatten, natL_length]; exact hml
      have hcl := cmpV_length adj k
      have hol := cmpL_length adj k
      rw [levels_eq hV hn hk]
      simp only [Option.bind_some]
      rw [Concat_eq _ (by omega) (by omega), levL_flatten]
      simp only [Option.bind_some]
      rw [Sort_eq (l := cmpV adj k) (levM_nodup hV k) (by omega) (cmpV_asc adj k) (fun x => by
        constructor
        · intro h
          obtain ⟨y, hy, rfl⟩ := List.mem_map.1 h
          exact mem_natL.2 ((mem_levM hV (by omega) hk).2 ((mem_cmpN hV hk).1 hy))
        · intro h
          obtain ⟨y, hy, rfl⟩ := List.mem_map.1 h
          exact mem_natL.2 ((mem_cmpN hV hk).2 ((mem_levM hV (by omega) hk).1 hy)))]
      simp only [Option.bind_some, Option.bind_assoc]
      refine bindR ((cT adj.length (Met adj (k + 1)), cmpL adj k, cmpV adj k, ())) ?_ (loop_for (cmpV adj k).length (fun i => (cT adj.length (fun x => Met adj k x ∨ (x : Int) ∈ (cmpV adj k).take i), cmpL adj k, cmpV adj k, ())) 0 rfl ?_ (Nat.zero_le _) ?_ ?_)
      · simp (disch := first | omega | (simp; omega)) only [Option.bind_some, limO_ok, wrap_inc]
        rw [cmpL_succ, if_pos hf]
      · exact congrArg (fun a => (a, _)) (cT_congr fun v _ => by simp)
      · intro i _ hi
        obtain ⟨w, hw, hw2⟩ : ∃ w : Nat, (cmpV adj k)[i] = (w : Int) ∧ w < adj.length := by
          obtain ⟨y, hy, e⟩ := List.mem_map.1 (List.getElem_mem hi)
          exact ⟨y, e.symm, ((mem_cmpN hV hk).1 hy).lt hV hk⟩
        have hg : (cmpV adj k)[i]? = some (w : Int) := by rw [List.getElem?_eq_getElem hi, hw]
        simp (disch := omega) only [cond_dec, if_pos, idxN_nat, Option.bind_some, atO_some hg, cT_length, cT_at, cT_set, wrap_inc]
        refine congrArg (fun a => some (Sum.inl (((i + 1 : Nat) : Int), a, cmpL adj k, cmpV adj k, ()))) (cT_congr fun v _ => ?_)
        rw [take_mem_succ hi hw, or_assoc]
      · simp (disch := omega) only [cond_dec, if_neg, List.take_length]
        refine congrArg (fun a => some (Sum.inr (a, cmpL adj k, cmpV adj k, ()))) (cT_congr fun v _ => ?_)
        rw [Met.succ]
        exact or_congr Iff.rfl (mem_natL.trans (mem_cmpN hV hk))
  · simp (disch := omega) only [cond_dec, if_neg]
theorem refComponents_eq (hn : adj.length ≤ 200) : d_sparseref12q_Components ((adj, ()), ()) = some (cmpL adj adj.length, ()) := by
  classical
  unfold d_sparseref12q_Components
  have h0 : chk adj = 0 := chk_zero.2 ⟨by omega, hV⟩
  simp only [refCheck_eq adj (hV.hc (by omega)), Option.bind_some, h0, bne_self_eq_false, cond_false]
  simp (disch := omega) only [madeO_ok, Option.bind_some, cT_none]
  refine bindR ((cmpL adj adj.length, ())) ?_ (loop_for adj.length (fun i => (cT adj.length (Met adj i), cmpL adj i, ())) 0 rfl ?_ (Nat.zero_le _) ?_ ?_)
  · rfl
  · exact congrArg (fun a => (a, ([] : List (List Int)), ())) (cT_congr fun v _ => ⟨fun h => h.elim, fun ⟨u, h, _⟩ => by omega⟩)
  · intro k _ hk
    simp (disch := omega) only [cond_dec, if_pos, cT_length, idxN_nat, cT_at, Option.bind_some]
    by_cases hm : Met adj k k
    · rw [if_pos hm]
      simp (disch := omega) only [Option.bind_some, wrap_inc]
      rw [cmpL_succ, if_neg (Met.not_fst.1 hm), List.append_nil]
      exact congrArg (fun a => some (Sum.inl (((k + 1 : Nat) : Int), a, cmpL adj k, ()))) (cT_congr fun v _ => (Met.old hm).symm)
    · rw [if_neg hm]
      have hf : Fst adj k := Classical.byContradiction fun h => hm (Met.not_fst.2 h)
      have hK := levN_is hV hn hk
      have hcl := cmpV_length adj k
      have hol := cmpL_length adj k
      have hlev : ∀ i, (hi : i < (levL adj k).length) → (levL adj k)[i] = levV adj k i := fun i hi => by simp [levL]
      have hll : (levL adj k).length = levN adj k := by simp [levL]
      have hKl := hK.le
      rw [refLevels_eq hV hn hk]
      simp only [Option.bind_some, Option.bind_assoc]
      refine bindR ((cT adj.length (Met adj k), cmpL adj k, cT adj.length (Rc adj k), ())) ?_ (loop_for (levN adj k) (fun i => (cT adj.length (Met adj k), cmpL adj k, cT adj.length (fun x => ∃ j, j < i ∧ AtK (Nb adj) k j x), ())) 0 rfl ?_ (Nat.zero_le _) ?_ ?_)
      · simp only [Option.bind_some]
        refine bindR ((cT adj.length (Met adj (k + 1)), cmpL adj k, cmpV adj k, ())) ?_ (loop_for adj.length (fun i => (cT adj.length (fun x => Met adj k x ∨ (x < i ∧ Rc adj k x)), cmpL adj k, cT adj.length (Rc adj k), natL ((List.range i).filter fun w => decide (Rc adj k w)), ())) 0 rfl ?_ (Nat.zero_le _) ?_ ?_)
        · simp (disch := first | omega | (simp; omega)) only [Option.bind_some, limO_ok, wrap_inc]
          rw [cmpL_succ, if_pos hf]
        · exact congrArg (fun a => (a, _)) (cT_congr fun v _ => by simp)
        · intro w _ hw
          simp (disch := omega) only [cond_dec, if_pos, cT_length, idxN_nat, cT_at, Option.bind_some]
          have hlw : ((List.range w).filter fun w => decide (Rc adj k w)).length ≤ w := Nat.le_trans (List.length_filter_le _ _) (by simp)
          rw [List.range_succ, List.filter_append, natL_append]
          by_cases hc : Rc adj k w
          · rw [if_pos hc]
            simp (disch := first | omega | (simp [natL_length]; omega)) only [Option.bind_some, limO_ok, cT_length, idxN_nat, cT_at, cT_set, wrap_inc]
            have e1 : cT adj.length (fun v => (Met adj k v ∨ v < w ∧ Rc adj k v) ∨ v = w) = cT adj.length (fun x => Met adj k x ∨ (x < w + 1 ∧ Rc adj k x)) := cT_congr fun v _ => by
              constructor
              · rintro ((h | ⟨h, h2⟩) | rfl)
                · exact .inl h
                · exact .inr ⟨by omega, h2⟩
                · exact .inr ⟨by omega, hc⟩
              · rintro (h | ⟨h, h2⟩)
                · exact .inl (.inl h)
                · rcases Nat.lt_or_ge v w with h3 | h3
                  · exact .inl (.inr ⟨h3, h2⟩)
                  · exact .inr (by omega)
            rw [e1]
            simp [hc, natL]
          · rw [if_neg hc]
            simp (disch := omega) only [Option.bind_some, wrap_inc]
            have e1 : cT adj.length (fun v => Met adj k v ∨ v < w ∧ Rc adj k v) = cT adj.length (fun x => Met adj k x ∨ (x < w + 1 ∧ Rc adj k x)) := cT_congr fun v _ => by
              refine or_congr Iff.rfl ⟨fun ⟨h, h2⟩ => ⟨by omega, h2⟩, fun ⟨h, h2⟩ => ⟨?_, h2⟩⟩
              rcases Nat.lt_or_ge v w with h3 | h3
              · exact h3
              · obtain rfl : v = w := by omega
                exact absurd h2 hc
            rw [e1]
            simp [hc, natL]
        · simp (disch := omega) only [cond_dec, if_neg]
          refine congrArg (fun a => some (Sum.inr (a, cmpL adj k, cmpV adj k, ()))) (cT_congr fun v hv => ?_)
          rw [Met.succ]
          exact or_congr Iff.rfl ⟨fun h => h.2, fun h => ⟨hv, h⟩⟩
      · exact congrArg (fun a => (cT adj.length (Met adj k), cmpL adj k, a, ())) (cT_congr fun v _ => by simp)
      · intro i _ hi
        have hgi : getI (levL adj k) (i : Int) = some (levV adj k i) := getN_some (by rw [List.getElem?_eq_getElem (by omega), hlev i (by omega)])
        have hvl := levV_length adj k i
        simp (disch := omega) only [cond_dec, if_pos, Option.bind_some, hgi]
        refine bindR ((cT adj.length (Met adj k), cmpL adj k, cT adj.length (fun x => ∃ j, j < i + 1 ∧ AtK (Nb adj) k j x), ())) ?_ (loop_for (levV adj k i).length (fun q => (cT adj.length (Met adj k), cmpL adj k, cT adj.length (fun x => (∃ j, j < i ∧ AtK (Nb adj) k j x) ∨ (x : Int) ∈ (levV adj k i).take q), ())) 0 rfl ?_ (Nat.zero_le _) ?_ ?_)
        · simp (disch := omega) only [Option.bind_some, wrap_inc]
        · exact congrArg (fun a => (cT adj.length (Met adj k), cmpL adj k, a, ())) (cT_congr fun v _ => by simp)
        · intro q _ hq
          obtain ⟨w, hw1, hw2, _⟩ := mem_levV' (List.getElem_mem hq)
          have hg : getI (levV adj k i) (q : Int) = some (w : Int) := getN_some (by rw [List.getElem?_eq_getElem hq, hw1])
          simp (disch := omega) only [cond_dec, if_pos, Option.bind_some, hg, cT_length, idxN_nat, cT_at, cT_set, wrap_inc]
          refine congrArg (fun a => some (Sum.inl (((q + 1 : Nat) : Int), cT adj.length (Met adj k), cmpL adj k, a, ()))) (cT_congr fun v _ => ?_)
          rw [take_mem_succ hq hw1, or_assoc]
        · simp (disch := omega) only [cond_dec, if_neg, List.take_length]
          refine congrArg (fun a => some (Sum.inr (cT adj.length (Met adj k), cmpL adj k, a, ()))) (cT_congr fun v _ => ?_)
          rw [mem_levV hV hk]
          constructor
          · rintro (⟨j, h1, h2⟩ | h)
            · exact ⟨j, by omega, h2⟩
            · exact ⟨i, by omega, h⟩
          · rintro ⟨j, h1, h2⟩
            rcases Nat.lt_or_ge j i with h | h
            · exact .inl ⟨j, h, h2⟩
            · obtain rfl : j = i := by omega
              exact .inr h2
      · simp (disch := omega) only [cond_dec, hll, if_neg]
        refine congrArg (fun a => some (Sum.inr (cT adj.length (Met adj k), cmpL adj k, a, ()))) (cT_congr fun v _ => ?_)
        constructor
        · rintro ⟨j, _, h⟩; exact ⟨j, h.1⟩
        · rintro ⟨j, h⟩
          obtain ⟨j', _, h'⟩ := AtK.exists h
          exact ⟨j', lev_lt hV hn hk h', h'⟩
  · simp (disch := omega) only [cond_dec, if_neg]
end
end Go.Fw
end

section
namespace Go.Fw
set_option linter.unusedSimpArgs false
set_option linter.unusedVariables false
open Go
def dgV (adj : List (List Int)) (x : Int) : Nat := (adj.getD x.toNat []).length
def pickV (adj : List (List Int)) (l : List Int) (k : Nat) : Int := (l.take k).foldl (fun w x => if dgV adj x < dgV adj w then x else w) (l.headD 0)
theorem pickV_zero (adj : List (List Int)) (l : List Int) : pickV adj l 0 = l.headD 0 := rfl
theorem pickV_succ (adj : List (List Int)) {l : List Int} {k : Nat} (h : k < l.length) : pickV adj l (k + 1) = if dgV adj l[k] < dgV adj (pickV adj l k) then l[k] else pickV adj l k := by
  unfold pickV
  rw [← take_snoc h, List.foldl_append]
  rfl
theorem pickV_one (adj : List (List Int)) {l : List Int} (h : 0 < l.length) : pickV adj l 1 = l.headD 0 := by
  rw [pickV_succ adj h, pickV_zero]
  cases l with
  | nil => exact absurd h (by simp)
  | cons a l => simp
theorem pickV_mem (adj : List (List Int)) {l : List Int} (h : 0 < l.length) : ∀ k, k ≤ l.length → pickV adj l k ∈ l := by
  intro k
  induction k with
  | zero =>
    intro _
    cases l with
    | nil => exact absurd h (by simp)
    | cons a l => simp [pickV]
  | succ k ih =>
    intro hk
    rw [pickV_succ adj (by omega)]
    split
    · exact List.getElem_mem _
    · exact ih (by omega)
noncomputable def lastV (adj : List (List Int)) (v : Nat) : List Int := levV adj v (levN adj v - 1)
noncomputable def farV (adj : List (List Int)) (v : Nat) : Nat := (pickV adj (lastV adj v) (lastV adj v).length).toNat
noncomputable def perF (adj : List (List Int)) : Nat → Nat → Nat
  | 0, v => v
  | d + 1, v => if levN adj (farV adj v) ≤ levN adj v then v else perF adj d (farV adj v)
noncomputable def perV (adj : List (List Int)) (v : Nat) : Nat := perF adj adj.length v
section
variable {adj : List (List Int)} (hV : Valid adj) (hn : adj.length ≤ 200)
include hV hn
theorem levN_pos {v : Nat} (hv : v < adj.length) : 0 < levN adj v := by
  have hK := levN_is hV hn hv
  rcases Nat.eq_zero_or_pos (levN adj v) with h | h
  · have := hK.em
    rw [h, levV_zero adj v hv] at this
    cases this
  · exact h
theorem lastV_pos {v : Nat} (hv : v < adj.length) : 0 < (lastV adj v).length := by
  have hK := levN_is hV hn hv
  have := hK.ne (levN adj v - 1) (by have := levN_pos hV hn hv; omega)
  exact List.length_pos_iff.2 this
theorem lastV_nat {v : Nat} {x : Int} (hv : v < adj.length) (hx : x ∈ lastV adj v) : ∃ w : Nat, x = (w : Int) ∧ w < adj.length ∧ Rc adj v w := by
  obtain ⟨w, h1, h2, h3⟩ := mem_levV' hx
  exact ⟨w, h1, h2, _, h3.1⟩
theorem farV_ok {v : Nat} (hv : v < adj.length) : pickV adj (lastV adj v) (lastV adj v).length = (farV adj v : Int) ∧ farV adj v < adj.length ∧ Rc adj v (farV adj v) := by
  obtain ⟨w, h1, h2, h3⟩ := lastV_nat hV hn hv (pickV_mem adj (lastV_pos hV hn hv) (lastV adj v).length (Nat.le_refl _))
  have : farV adj v = w := by unfold farV; omega
  rw [this]; exact ⟨h1, h2, h3⟩
theorem perF_ok : ∀ d v, v < adj.length → perF adj d v < adj.length ∧ Rc adj v (perF adj d v) := by
  intro d
  induction d with
  | zero => intro v hv; exact ⟨hv, Rc.refl adj v⟩
  | succ d ih =>
    intro v hv
    obtain ⟨_, h2, h3⟩ := farV_ok hV hn hv
    unfold perF
    split
    · exact ⟨hv, Rc.refl adj v⟩
    · exact ⟨(ih _ h2).1, h3.trans (ih _ h2).2⟩
theorem perV_ok {v : Nat} (hv : v < adj.length) : perV adj v < adj.length ∧ Rc adj v (perV adj v) := perF_ok hV hn _ v hv
theorem get_last {v : Nat} (hv : v < adj.length) : getI (levL adj v) (IntKind.i64.wrap ((((levL adj v).length : Nat) : Int) - 1)) = some (lastV adj v) := by
  have h1 := levN_pos hV hn hv
  have h2 := (levN_is hV hn hv).le
  have hl : (levL adj v).length = levN adj v := by simp [levL]
  rw [hl, wrap_pred (by omega) (by omega)]
  refine getN_some ?_
  rw [List.getElem?_eq_getElem (by omega)]
  simp [levL, lastV]
theorem getDg {x : Nat} (hx : x < adj.length) : getI adj (x : Int) = some adj[x] ∧ dgV adj (x : Int) = adj[x].length := ⟨getN_some (List.getElem?_eq_getElem hx), by simp [dgV, hx]⟩
theorem refPeripheral_eq {v : Nat} (hv : v < adj.length) : d_sparseref12q_Peripheral ((adj, ()), (v : Int), ()) = some ((perV adj v : Int), ()) := by
  unfold d_sparseref12q_Peripheral
  have h0 : chk adj = 0 := chk_zero.2 ⟨hn, hV⟩
  simp (disch := omega) only [refCheck_eq adj (hV.hc hn), Option.bind_some, h0, bne_self_eq_false, beq_self_eq_true, cond_true, cond_dec_beqF, cond_dec, if_neg]
  rw [← Ok.eq_iff]
  refine Ok.bind_of (P := fun r => r = ((perV adj v : Int), ())) ?_ (by rintro _ rfl; exact Ok.some_iff.2 rfl)
  refine Ok.loop (fun s => ∃ u d : Nat, s = ((u : Int), ()) ∧ u < adj.length ∧ perF adj d u = perV adj v ∧ adj.length ≤ d + levN adj u) (fun s => adj.length - levN adj s.1.toNat) ⟨v, adj.length, rfl, hv, rfl, by omega⟩ ?_
  rintro _ ⟨u, d, rfl, hu, hd, hdn⟩
  have hlp := lastV_pos hV hn hu
  have hll := levV_length adj u (levN adj u - 1)
  change (lastV adj u).length ≤ _ at hll
  have hhd : getI (lastV adj u) 0 = some ((lastV adj u).headD 0) := by
    rw [show (0 : Int) = ((0 : Nat) : Int) from rfl]
    refine getN_some ?_
    cases h : lastV adj u with
    | nil => rw [h] at hlp; exact absurd hlp (by simp)
    | cons a l => rfl
  simp only [refLevels_eq hV hn hu, Option.bind_some, get_last hV hn hu, hhd]
  obtain ⟨f1, f2, f3⟩ := farV_ok hV hn hu
  refine Ok.bind_of (P := fun r => r = ((farV adj u : Int), ())) ?_ ?_
  · rw [Ok.eq_iff]
    refine loop_seq (lastV adj u).length (fun i => (pickV adj (lastV adj u) i, (i : Int), ())) 1 ?_ (by omega) ?_ ?_
    · rw [pickV_one adj hlp]; rfl
    · intro i _ hi
      obtain ⟨x, hx1, hx2, _⟩ := lastV_nat hV hn hu (List.getElem_mem hi)
      obtain ⟨w, hw1, hw2, _⟩ := lastV_nat hV hn hu (pickV_mem adj hlp i (by omega))
      have hg : getI (lastV adj u) (i : Int) = some (x : Int) := getN_some (by rw [List.getElem?_eq_getElem hi, hx1])
      rw [pickV_succ adj hi, hx1, hw1]
      obtain ⟨g1, g2⟩ := getDg hV hn hx2
      obtain ⟨k1, k2⟩ := getDg hV hn hw2
      simp (disch := omega) only [cond_dec, if_pos, hg, g1, k1, Option.bind_some, wrap_inc, g2, k2]
      by_cases hlt : adj[x].length < adj[w].length
      · rw [if_pos (by omega), if_pos hlt]; rfl
      · rw [if_neg (by omega), if_neg hlt]; rfl
    · simp (disch := omega) only [cond_dec, if_neg, f1]
  · rintro _ rfl
    have hl : ∀ z, (levL adj z).length = levN adj z := fun z => by simp [levL]
    simp only [refLevels_eq hV hn f2, Option.bind_some, cond_dec, hl]
    have hK := (levN_is hV hn f2).le
    refine Ok.ite (fun h => Ok.some_iff.2 ?_) (fun h => Ok.some_iff.2 ⟨?_, ?_⟩)
    · rw [← hd]
      cases d with
      | zero => rfl
      | succ d => unfold perF; rw [if_pos (by omega)]
    · cases d with
      | zero => omega
      | succ d =>
        refine ⟨farV adj u, d, rfl, f2, ?_, by omega⟩
        rw [← hd]
        conv => rhs; unfold perF
        rw [if_neg (by omega)]
    · simp only [Int.toNat_natCast]
      omega
omit hn in
theorem Peripheral_eq (hn : adj.length ≤ 12) {v : Nat} (hv : v < adj.length) : d_graph_Peripheral ((adj, ()), (v : Int), ()) = some ((perV adj v : Int), ()) := by
  have hn2 : adj.length ≤ 200 := by omega
  unfold d_graph_Peripheral
  have h0 : chk adj = 0 := chk_zero.2 ⟨hn2, hV⟩
  simp (disch := omega) only [Check_eq adj (hV.hc hn2), Option.bind_some, h0, bne_self_eq_false, beq_self_eq_true, cond_true, vertex_eq, decT (show 0 ≤ (v : Int) ∧ (v : Int) < (adj.length : Int) by omega), Bool.not_true, cond_false, levels_eq hV hn hv]
  rw [← Ok.eq_iff]
  refine Ok.bind_of (P := fun r => r = ((perV adj v : Int), ())) ?_ (by rintro _ rfl; exact Ok.some_iff.2 rfl)
  refine Ok.loop (fun s => ∃ u d : Nat, s = ((u : Int), levL adj u, ()) ∧ u < adj.length ∧ perF adj d u = perV adj v ∧ adj.length ≤ d + levN adj u) (fun s => adj.length - levN adj s.1.toNat) ⟨v, adj.length, rfl, hv, rfl, by omega⟩ ?_
  rintro _ ⟨u, d, rfl, hu, hd, hdn⟩
  have hlp := lastV_pos hV hn2 hu
  have hll := levV_length adj u (levN adj u - 1)
  change (lastV adj u).length ≤ _ at hll
  have hhd : getI (lastV adj u) 0 = some ((lastV adj u).headD 0) := by
    rw [show (0 : Int) = ((0 : Nat) : Int) from rfl]
    refine getN_some ?_
    cases h : lastV adj u with
    | nil => rw [h] at hlp; exact absurd hlp (by simp)
    | cons a l => rfl
  simp only [Option.bind_some, get_last hV hn2 hu, hhd]
  obtain ⟨f1, f2, f3⟩ := farV_ok hV hn2 hu
  refine Ok.bind_of (P := fun r => r = ((farV adj u : Int), ())) ?_ ?_
  · rw [Ok.eq_iff]
    refine loop_seq (lastV adj u).length (fun i => (pickV adj (lastV adj u) i, (i : Int), ())) 0 rfl (by omega) ?_ ?_
    · intro i _ hi
      obtain ⟨x, hx1, hx2, _⟩ := lastV_nat hV hn2 hu (List.getElem_mem hi)
      obtain ⟨w, hw1, hw2, _⟩ := lastV_nat hV hn2 hu (pickV_mem adj hlp i (by omega))
      have hg : getI (lastV adj u) (i : Int) = some (x : Int) := getN_some (by rw [List.getElem?_eq_getElem hi, hx1])
      rw [pickV_succ adj hi, hx1, hw1]
      obtain ⟨g1, g2⟩ := getDg hV hn2 hx2
      obtain ⟨k1, k2⟩ := getDg hV hn2 hw2
      simp (disch := omega) only [cond_dec, if_pos, hg, g1, k1, Option.bind_some, wrap_inc, g2, k2]
      by_cases hlt : adj[x].length < adj[w].length
      · rw [if_pos (by omega), if_pos hlt]; rfl
      · rw [if_neg (by omega), if_neg hlt]; rfl
    · simp (disch := omega) only [cond_dec, if_neg, f1]
  · rintro _ rfl
    have hl : ∀ z, (levL adj z).length = levN adj z := fun z => by simp [levL]
    simp only [levels_eq hV hn f2, Option.bind_some, cond_dec, hl]
    have hK := (levN_is hV hn2 f2).le
    refine Ok.ite (fun h => Ok.some_iff.2 ?_) (fun h => Ok.some_iff.2 ⟨?_, ?_⟩)
    · rw [← hd]
      cases d with
      | zero => rfl
      | succ d => unfold perF; rw [if_pos (by omega)]
    · cases d with
      | zero => omega
      | succ d =>
        refine ⟨farV adj u, d, rfl, f2, ?_, by omega⟩
        rw [← hd]
        conv => rhs; unfold perF
        rw [if_neg (by omega)]
    · simp only [Int.toNat_natCast]
      omega
end
end Go.Fw
end

section
namespace Go.Fw
set_option linter.unusedSimpArgs false
set_option linter.unusedVariables false
open Go
noncomputable def insG (cmp : Int → Int → Option (Int × Unit)) (data : List Int) (a b : Int) : Option (List Int × Unit) :=
  (loop (σ := (Int × (List Int) × Unit)) (ρ := ((List Int) × Unit)) (fun (i_5, data_6, _) =>
  (bif (decide (i_5 < b)) then (
  (loop (σ := (Int × (List Int) × Unit)) (ρ := ((List Int) × Unit)) (fun (j_7, data_8, _) =>
  Option.bind (α := ((List Int) × Unit) ⊕ ((Int × (List Int) × Unit) ⊕ ((List Int) × Unit))) (
  (bif ((decide (j_7 > a)) == true) then ((idxN (data_8).length j_7).bind fun k9 =>
  ((atO data_8 k9 fun e10 => some e10)).bind fun y11 =>
  (idxN (data_8).length (IntKind.i64.wrap (j_7 - ((1) : Int)))).bind fun k12 =>
  ((atO data_8 k12 fun e13 => some e13)).bind fun y14 =>
  (cmp y11 y14).bind fun (r15, _) =>
  (bif (decide (r15 < ((0) : Int))) then (
  some (.inl (data_8, ()))) else (
  some (.inr (.inr (data_8, ())))))) else (some (.inr (.inr (data_8, ())))))) fun q => match q with
  | .inl (data_16, _) => (
  (idxN (data_16).length (IntKind.i64.wrap (j_7 - ((1) : Int)))).bind fun k17 =>
  ((atO data_16 k17 fun e18 => some e18)).bind fun y19 =>
  (idxN (data_16).length j_7).bind fun k20 =>
  ((atO data_16 k20 fun e21 => some e21)).bind fun y22 =>
  (idxN (data_16).length j_7).bind fun k23 =>
  ((atO data_16 k23 fun _ => some ((data_16).set k23 y19))).bind fun z25 =>
  (idxN (z25).length (IntKind.i64.wrap (j_7 - ((1) : Int)))).bind fun k26 =>
  ((atO z25 k26 fun _ => some ((z25).set k26 y22))).bind fun z28 =>
  some (.inl ((IntKind.i64.wrap (j_7 - ((1) : Int))), z28, ())))
  | .inr r => some r) (i_5, data_6, ())).bind fun (data_29, _) =>
  some (.inl ((IntKind.i64.wrap (i_5 + ((1) : Int))), data_29, ()))) else (
  some (.inr (data_6, ()))))) ((IntKind.i64.wrap (a + ((1) : Int))), data, ())).bind fun (data_30, _) =>
  some (data_30, ())
theorem insG_ok {cmp : Int → Int → Option (Int × Unit)} {lt : Int → Int → Bool} (hS : SOrd lt) (l : List Int) (hcmp : ∀ x y, x ∈ l → y ∈ l → ∃ r, cmp x y = some (r, ()) ∧ (r < 0 ↔ lt x y = true)) (hl : l.length ≤ 1000) :
    Ok (insG cmp l 0 (l.length : Int)) (fun r => ∃ g, r.1 = fT l.length g ∧ SortedI lt g l.length ∧ r.1.Perm l) := by
  unfold insG
  generalize hn : l.length = n at *
  have h0 : IntKind.i64.wrap (0 + 1) = ((1 : Nat) : Int) := by rw [wrap64] <;> omega
  rw [h0]
  rcases Nat.eq_zero_or_pos n with hz | hpos
  · subst hz
    refine Ok.bind_of (P := fun r => r.1 = l) ?_ ?_
    · refine Ok.loop (fun s => s = (((1 : Nat) : Int), l, ())) (fun _ => 0) rfl ?_
      rintro _ rfl
      simp only [cond_dec]
      rw [if_neg (by omega)]
      exact Ok.some_iff.2 rfl
    · rintro ⟨r, _⟩ rfl
      refine Ok.some_iff.2 ⟨fun _ => 0, ?_, fun p q h1 h2 => by omega, List.Perm.refl _⟩
      show r = []
      exact List.eq_nil_of_length_eq_zero hn
  refine Ok.bind_of (P := fun r => ∃ g, r.1 = fT n g ∧ SortedI lt g n ∧ r.1.Perm l) ?_ (fun r hr => Ok.some_iff.2 hr)
  refine Ok.for n (fun i t => ∃ g, t = (fT n g, ()) ∧ SortedI lt g i ∧ (fT n g).Perm l) rfl ⟨fun i => l[i]?.getD default, ?_, fun p q h1 h2 => by omega, ?_⟩ hpos ?_ ?_
  · rw [← hn, ← fT_self]
  · rw [← hn, ← fT_self]
  · rintro i _ h1 h2 ⟨g, rfl, hSi, hP⟩
    simp only [cond_dec]
    rw [if_pos (by omega)]
    refine Ok.bind_of (P := fun r => ∃ g, r = (fT n g, ()) ∧ SortedI lt g (i + 1) ∧ (fT n g).Perm l) ?_ ?_
    · refine Ok.loop (fun s => ∃ (j : Nat) (g : Nat → Int), s = ((j : Int), fT n g, ()) ∧ j ≤ i ∧ InsI lt g i j ∧ (fT n g).Perm l) (fun s => s.1.toNat) ⟨i, g, rfl, Nat.le_refl _, fun p q hpq hq hne => hSi p q hpq (by omega), hP⟩ ?_
      rintro _ ⟨j, g, rfl, hj, hI, hP⟩
      simp only [cond_dec_beq]
      by_cases hj0 : 0 < j
      · have hj1 : j - 1 < n := by omega
        have hj2 : j < n := by omega
        obtain ⟨r, hr1, hr2⟩ := hcmp (g j) (g (j - 1)) (hP.mem_iff.1 (mem_fT.2 ⟨j, hj2, rfl⟩)) (hP.mem_iff.1 (mem_fT.2 ⟨j - 1, hj1, rfl⟩))
        simp (disch := omega) only [if_pos, fT_length, wrap_pred, idxN_nat, atO_fT, Option.bind_some, hr1, cond_dec]
        by_cases hlt : lt (g j) (g (j - 1)) = true
        · rw [if_pos (hr2.2 hlt)]
          simp (disch := omega) only [Option.bind_some, fT_length, wrap_pred, idxN_nat, atO_fT, fT_set]
          refine Ok.some_iff.2 ⟨⟨j - 1, swp g j, rfl, by omega, hI.swp hS hj0 hj hlt, (swp_perm hj0 hj2).trans hP⟩, ?_⟩
          show ((j - 1 : Nat) : Int).toNat < ((j : Nat) : Int).toNat
          omega
        · rw [if_neg (fun h => hlt (hr2.1 h))]
          exact Ok.some_iff.2 ⟨g, rfl, hI.done hS hj (.inr (by simpa using hlt)), hP⟩
      · rw [if_neg (by omega)]
        exact Ok.some_iff.2 ⟨g, rfl, hI.done hS hj (.inl (by omega)), hP⟩
    · rintro _ ⟨g, rfl, hSi, hP⟩
      simp (disch := omega) only [wrap_inc]
      exact Ok.some_iff.2 ⟨rfl, g, rfl, hSi, hP⟩
  · rintro _ ⟨g, rfl, hSi, hP⟩
    simp only [cond_dec]
    rw [if_neg (by omega)]
    exact Ok.some_iff.2 ⟨g, rfl, hSi, hP⟩
def lexI (adj : List (List Int)) (x y : Int) : Prop := dgV adj x < dgV adj y ∨ (dgV adj x = dgV adj y ∧ x < y)
instance (adj : List (List Int)) (x y : Int) : Decidable (lexI adj x y) := by unfold lexI; exact inferInstance
theorem SOrd.lex (adj : List (List Int)) : SOrd (fun x y => decide (lexI adj x y)) := by
  constructor
  · intro a b h
    have h1 : lexI adj a b := of_decide_eq_true h
    refine decide_eq_false fun h2 => ?_
    unfold lexI at h1 h2
    omega
  · intro a b c h1 h2
    have h1 : ¬ lexI adj b a := of_decide_eq_false h1
    have h2 : ¬ lexI adj c b := of_decide_eq_false h2
    refine decide_eq_false fun h3 => ?_
    unfold lexI at h1 h2 h3
    omega
theorem Compare_eq (x y : Int) : d_cmp_Compare_int (x, y, ()) = some (if x < y then -1 else if x > y then 1 else 0, ()) := by
  have hn : ∀ z : Int, d_cmp_isNaN_int (z, ()) = some (false, ()) := fun z => by simp [d_cmp_isNaN_int]
  unfold d_cmp_Compare_int
  simp only [hn, Option.bind_some, cond_false, cond_dec]
  split
  · rfl
  · split <;> rfl
theorem Or_eq (x y : Int) : d_cmp_Or_int ([x, y], ()) = some (if x ≠ 0 then x else y, ()) := by
  unfold d_cmp_Or_int
  have g0 : getI [x, y] 0 = some x := rfl
  have g1 : getI [x, y] 1 = some y := rfl
  have w0 : IntKind.i64.wrap (0 + 1) = 1 := by rw [wrap64] <;> omega
  have w1 : IntKind.i64.wrap (1 + 1) = 2 := by rw [wrap64] <;> omega
  have hl : (([x, y].length : Nat) : Int) = 2 := rfl
  dsimp only
  simp only [hl]
  rw [loop_unfold]
  simp only [cond_dec, g0, Option.bind_some, bneI]
  rw [if_pos (by omega)]
  by_cases hx : x = 0
  · subst hx
    simp only [decide_true, Bool.not_true, cond_false, w0]
    rw [loop_unfold]
    simp only [cond_dec, g1, Option.bind_some, bneI]
    rw [if_pos (by omega)]
    by_cases hy : y = 0
    · subst hy
      simp only [decide_true, Bool.not_true, cond_false, w1]
      rw [loop_unfold]
      simp
    · simp [hy]
  · simp [hx]
theorem insR_eq (l : List Int) (a b : Int) (p : Option (List (List Int) × Unit)) : d_slices_insertionSortCmpFunc_int_rcm (l, a, b, (p, ()), ()) = insG (fun x y => d_rcm_grow_1q_q0 (x, y, p, ())) l a b := rfl
theorem grow1_eq {adj : List (List Int)} {a b : Nat} (ha : a < adj.length) (hb : b < adj.length) :
    ∃ r, d_rcm_grow_1q_q0 ((a : Int), (b : Int), some (adj, ()), ()) = some (r, ()) ∧ (r < 0 ↔ decide (lexI adj (a : Int) (b : Int)) = true) := by
  unfold d_rcm_grow_1q_q0
  have g1 : getI adj (a : Int) = some adj[a] := getN_some (List.getElem?_eq_getElem ha)
  have g2 : getI adj (b : Int) = some adj[b] := getN_some (List.getElem?_eq_getElem hb)
  have d1 : dgV adj (a : Int) = adj[a].length := by simp [dgV, ha]
  have d2 : dgV adj (b : Int) = adj[b].length := by simp [dgV, hb]
  simp only [Option.bind_some, g1, g2, Compare_eq, Or_eq]
  refine ⟨_, rfl, ?_⟩
  rw [decide_eq_true_eq]
  unfold lexI
  rw [d1, d2]
  by_cases c1 : ((adj[a].length : Nat) : Int) < ((adj[b].length : Nat) : Int)
  · rw [if_pos c1, if_pos (by omega)]
    exact ⟨fun _ => .inl (by omega), fun _ => by omega⟩
  · rw [if_neg c1]
    by_cases c2 : ((adj[a].length : Nat) : Int) > ((adj[b].length : Nat) : Int)
    · rw [if_pos c2, if_pos (by omega)]
      exact ⟨fun h => by omega, fun h => by omega⟩
    · rw [if_neg c2, if_neg (by omega)]
      by_cases c3 : (a : Int) < (b : Int)
      · rw [if_pos c3]; exact ⟨fun _ => .inr (by omega), fun _ => by omega⟩
      · rw [if_neg c3]
        split
        · exact ⟨fun h => by omega, fun h => by omega⟩
        · exact ⟨fun h => by omega, fun h => by omega⟩
theorem pdqR_small (l : List Int) (b : Int) (p : Option (List (List Int) × Unit)) (hl : l.length ≤ 12) {r : List Int × Unit} (hr : insG (fun x y => d_rcm_grow_1q_q0 (x, y, p, ())) l 0 (l.length : Int) = some r) :
    d_slices_pdqsortCmpFunc_int_rcm (l, 0, (l.length : Int), b, (p, ()), ()) = some r := by
  unfold d_slices_pdqsortCmpFunc_int_rcm
  show fixO (deep r_slices_pdqsortCmpFunc_int_rcmq_s) _ = some r
  rw [fixO_iff r_slices_pdqsortCmpFunc_int_rcmq_mono]
  refine ⟨1, ?_⟩
  have e1 : deep r_slices_pdqsortCmpFunc_int_rcmq_s 1 (l, 0, (l.length : Int), b, (p, ()), ()) = r_slices_pdqsortCmpFunc_int_rcmq_s (deep r_slices_pdqsortCmpFunc_int_rcmq_s 0) (l, 0, (l.length : Int), b, (p, ()), ()) := rfl
  rw [e1]
  unfold r_slices_pdqsortCmpFunc_int_rcmq_s
  dsimp only
  rw [loop_unfold]
  dsimp only
  have hw : IntKind.i64.wrap ((l.length : Int) - 0) = ((l.length : Nat) : Int) := by rw [Int.sub_zero]; exact wrapN (by omega)
  simp only [hw, cond_dec]
  rw [if_pos (by omega), insR_eq, hr]
  rfl
theorem SortFunc_ok {adj : List (List Int)} {nx : List Nat} (hd : nx.Nodup) (hx : ∀ x ∈ nx, x < adj.length) (h12 : nx.length ≤ 12) :
    ∃ s : List Nat, d_slices_SortFunc_int_int_rcm (natL nx, ((some (adj, ())), ()), ()) = some (natL s, ()) ∧ s.Perm nx ∧ s.Pairwise (fun x y : Nat => lexI adj (x : Int) (y : Int)) := by
  have hlen : (natL nx).length ≤ 12 := by rw [natL_length]; exact h12
  obtain ⟨⟨r, ⟨⟩⟩, hr, g, hg, hS, hP⟩ := insG_ok (cmp := fun x y => d_rcm_grow_1q_q0 (x, y, some (adj, ()), ())) (SOrd.lex adj) (natL nx) (by
    intro x y hx1 hy1
    obtain ⟨a, ha, rfl⟩ := List.mem_map.1 hx1
    obtain ⟨b, hb, rfl⟩ := List.mem_map.1 hy1
    exact grow1_eq (hx a ha) (hx b hb)) (by omega)
  simp only at hg hP
  obtain ⟨b, hb⟩ := Len_ok (natL nx).length hlen
  have hnat : ∀ x ∈ r, ∃ v : Nat, x = (v : Int) ∧ v ∈ nx := fun x h => by
    obtain ⟨v, hv, rfl⟩ := List.mem_map.1 (hP.mem_iff.1 h)
    exact ⟨v, rfl, hv⟩
  have hrs : r = natL (r.map Int.toNat) := by
    unfold natL
    rw [List.map_map]
    conv => lhs; rw [← List.map_id r]
    refine List.map_congr_left fun x h => ?_
    obtain ⟨v, rfl, _⟩ := hnat x h
    simp
  have hps : (r.map Int.toNat).Perm nx := by
    have := hP.map Int.toNat
    simpa [natL, Function.comp_def] using this
  refine ⟨r.map Int.toNat, ?_, hps, ?_⟩
  · unfold d_slices_SortFunc_int_int_rcm
    simp only []
    rw [wrapUq_eq _ (by omega) (by omega), hb]
    simp only [Option.bind_some]
    rw [pdqR_small _ _ _ hlen hr]
    simp only [Option.bind_some]
    rw [← hrs]
  · have hdn : (r.map Int.toNat).Nodup := hps.nodup_iff.2 hd
    rw [List.pairwise_map]
    have hrd : r.Nodup := by rw [hrs]; exact natL_nodup hdn
    rw [hg] at hrd hnat ⊢
    rw [List.pairwise_iff_getElem]
    intro i j hi hj hij
    have h1 := hS i j hij (by simpa [fT_length] using hj)
    obtain ⟨x, hx1, _⟩ := hnat _ (List.getElem_mem hi)
    obtain ⟨y, hy1, _⟩ := hnat _ (List.getElem_mem hj)
    have hne : (fT (natL nx).length g)[i] ≠ (fT (natL nx).length g)[j] := fun e => by
      have := (List.getElem_inj hrd).1 e
      omega
    rw [fT_getElem] at hx1 hy1
    rw [fT_getElem, fT_getElem] at hne ⊢
    rw [hx1, hy1] at hne h1 ⊢
    have h1 : ¬ lexI adj (y : Int) (x : Int) := of_decide_eq_false h1
    unfold lexI at h1 ⊢
    simp only [Int.toNat_natCast]
    omega
end Go.Fw
end

section
namespace Go.Fw
set_option linter.unusedSimpArgs false
set_option linter.unusedVariables false
open Go
theorem pw_ext {α : Type} {R : α → α → Prop} (ha : ∀ a b, R a b → ¬ R b a) : ∀ {a b : List α}, a.Pairwise R → b.Pairwise R → (∀ x, x ∈ a ↔ x ∈ b) → a = b
  | [], [], _, _, _ => rfl
  | [], y :: b, _, _, h => absurd ((h y).2 (List.mem_cons_self ..)) (by simp)
  | x :: a, [], _, _, h => absurd ((h x).1 (List.mem_cons_self ..)) (by simp)
  | x :: a, y :: b, h1, h2, h => by
    obtain ⟨h3, h4⟩ := List.pairwise_cons.1 h1
    obtain ⟨h5, h6⟩ := List.pairwise_cons.1 h2
    have hxy : x = y := by
      rcases List.mem_cons.1 ((h x).1 (List.mem_cons_self ..)) with e | e
      · exact e
      · rcases List.mem_cons.1 ((h y).2 (List.mem_cons_self ..)) with e' | e'
        · exact e'.symm
        · exact absurd (h3 _ e') (ha _ _ (h5 _ e))
    subst hxy
    refine congrArg _ (pw_ext ha h4 h6 fun z => ?_)
    constructor
    · intro hz
      rcases List.mem_cons.1 ((h z).1 (List.mem_cons_of_mem _ hz)) with e | e
      · subst e; exact absurd (h3 _ hz) (ha _ _ (h3 _ hz))
      · exact e
    · intro hz
      rcases List.mem_cons.1 ((h z).2 (List.mem_cons_of_mem _ hz)) with e | e
      · subst e; exact absurd (h5 _ hz) (ha _ _ (h5 _ hz))
      · exact e
def lexN (adj : List (List Int)) (x y : Nat) : Prop := lexI adj (x : Int) (y : Int)
theorem lexN.asym {adj : List (List Int)} (a b : Nat) (h : lexN adj a b) : ¬ lexN adj b a := by
  unfold lexN lexI at *
  omega
theorem lexN.trans {adj : List (List Int)} {a b c : Nat} (h : lexN adj a b) (h2 : lexN adj b c) : lexN adj a c := by
  unfold lexN lexI at *
  omega
structure IsNx (adj : List (List Int)) (o : List Nat) (v : Nat) (s : List Nat) : Prop where
  srt : s.Pairwise (lexN adj)
  mem : ∀ x, x ∈ s ↔ Nb adj v x ∧ x ∉ o
theorem IsNx.uniq {adj : List (List Int)} {o s s' : List Nat} {v : Nat} (h : IsNx adj o v s) (h' : IsNx adj o v s') : s = s' :=
  pw_ext lexN.asym h.srt h'.srt fun x => by rw [h.mem, h'.mem]
open Classical in
noncomputable def nxV (adj : List (List Int)) (o : List Nat) (v : Nat) : List Nat := if h : ∃ s, IsNx adj o v s then h.choose else []
theorem IsNx.eq {adj : List (List Int)} {o s : List Nat} {v : Nat} (h : IsNx adj o v s) : nxV adj o v = s := by
  unfold nxV
  rw [dif_pos ⟨s, h⟩]
  exact (Exists.choose_spec (p := fun s => IsNx adj o v s) ⟨s, h⟩).uniq h
theorem IsNx.nodup {adj : List (List Int)} {o s : List Nat} {v : Nat} (h : IsNx adj o v s) : s.Nodup :=
  List.nodup_iff_pairwise_ne.2 (h.srt.imp fun h e => by subst e; exact lexN.asym _ _ h h)
noncomputable def growF (adj : List (List Int)) : Nat → Nat → List Nat → List Nat
  | 0, _, o => o
  | d + 1, i, o => if h : i < o.length then growF adj d (i + 1) (o ++ nxV adj o o[i]) else o
noncomputable def growV (adj : List (List Int)) (st : Nat) (o : List Nat) : List Nat := growF adj (adj.length + 1) o.length (o ++ [st])
section
variable {adj : List (List Int)} (hV : Valid adj) (hn : adj.length ≤ 12)
include hV hn
theorem nx_is (o : List Nat) (v : Nat) : IsNx adj o v (nxV adj o v) := by
  classical
  obtain ⟨s, _, h2, h3⟩ := SortFunc_ok (adj := adj) (nx := (List.range adj.length).filter fun x => decide (Nb adj v x ∧ x ∉ o)) (List.Pairwise.filter _ List.nodup_range) (fun x hx => List.mem_range.1 (List.mem_filter.1 hx).1) (Nat.le_trans (List.length_filter_le _ _) (by simpa using hn))
  have : IsNx adj o v s := ⟨h3, fun x => by
    rw [h2.mem_iff, List.mem_filter, List.mem_range, decide_eq_true_eq]
    exact ⟨fun h => h.2, fun h => ⟨(h.1.lt hV).2, h⟩⟩⟩
  rw [this.eq]; exact this
theorem nx_step {o : List Nat} {i : Nat} (hd : o.Nodup) (hx : ∀ x ∈ o, x < adj.length) (hi : i < o.length) :
    (o ++ nxV adj o o[i]).Nodup ∧ ∀ x ∈ o ++ nxV adj o o[i], x < adj.length := by
  have hN := nx_is hV hn o o[i]
  refine ⟨List.nodup_append.2 ⟨hd, hN.nodup, fun a ha b hb e => ?_⟩, fun x h => ?_⟩
  · subst e; exact ((hN.mem _).1 hb).2 ha
  · rcases List.mem_append.1 h with h | h
    · exact hx x h
    · exact (((hN.mem _).1 h).1.lt hV).2
theorem grow_eq {o : List Nat} {st : Nat} (hst : st < adj.length) (hd : o.Nodup) (hx : ∀ x ∈ o, x < adj.length) (hs : st ∉ o) :
    d_rcm_grow ((adj, ()), (st : Int), natL o, cT adj.length (fun x => x ∈ o), ()) = some (cT adj.length (fun x => x ∈ growV adj st o), natL (growV adj st o), ()) := by
  classical
  have hol := nodup_le hd hx
  unfold d_rcm_grow
  simp (disch := first | omega | (simp [natL_length]; omega)) only [limO_ok, Option.bind_some, cT_length, idxN_nat, cT_at, cT_set]
  rw [← Ok.eq_iff]
  refine Ok.bind_of (P := fun r => r = (natL (growV adj st o), cT adj.length (fun x => x ∈ growV adj st o), ())) ?_ (by rintro _ rfl; exact Ok.some_iff.2 rfl)
  refine Ok.loop (fun s => ∃ (i : Nat) (o' : List Nat) (d : Nat), s = ((i : Int), natL o', cT adj.length (fun x => x ∈ o'), ()) ∧ growF adj d i o' = growV adj st o ∧ adj.length < d + i ∧ o'.Nodup ∧ (∀ x ∈ o', x < adj.length) ∧ i ≤ o'.length) (fun s => adj.length + 1 - s.1.toNat) ⟨o.length, o ++ [st], adj.length + 1, ?_, rfl, by omega, ?_, ?_, by simp⟩ ?_
  · rw [natL_append, natL_length]
    exact congrArg (fun a => ((o.length : Int), natL o ++ natL [st], a, ())) (cT_congr fun v _ => by simp)
  · exact List.nodup_append.2 ⟨hd, by simp, fun a ha b hb e => by rw [List.mem_singleton] at hb; subst hb; subst e; exact hs ha⟩
  · intro x h
    rcases List.mem_append.1 h with h | h
    · exact hx x h
    · rw [List.mem_singleton] at h; omega
  rintro _ ⟨i, o', d, rfl, hd1, hd2, hd3, hd4, hi⟩
  have hol' := nodup_le hd3 hd4
  simp only [cond_dec, natL_length]
  refine Ok.ite (fun h => ?_) (fun h => ?_)
  rotate_left
  · have : o' = growV adj st o := by
      rw [← hd1]
      cases d with
      | zero => rfl
      | succ d => unfold growF; rw [dif_neg (by omega)]
    rw [← this]
    exact Ok.some_iff.2 rfl
  have hio : i < o'.length := by omega
  obtain ⟨d, rfl⟩ : ∃ e, d = e + 1 := ⟨d - 1, by omega⟩
  have hv := hd4 _ (List.getElem_mem hio)
  have hg : (natL o')[i]? = some ((o'[i] : Nat) : Int) := by simp [natL, hio]
  have hga : getI adj ((o'[i] : Nat) : Int) = some adj[o'[i]] := getN_some (List.getElem?_eq_getElem hv)
  have hvl := (hV.asc _ hv).length
  simp (disch := omega) only [natL_length, idxN_nat, Option.bind_some, atO_some hg, hga]
  refine Ok.bind_of (P := fun q => ∃ nx, q = (natL o', cT adj.length (fun v => v ∈ o' ∨ v ∈ nx), natL nx, ()) ∧ Nxt adj (fun v => v ∈ o') (fun x => Nb adj o'[i] x) nx) ?_ ?_
  · refine Ok.for (i0 := 0) adj[o'[i]].length (fun j t => ∃ nx, t = (natL o', cT adj.length (fun v => v ∈ o' ∨ v ∈ nx), natL nx, ()) ∧ Nxt adj (fun v => v ∈ o') (fun x => (x : Int) ∈ adj[o'[i]].take j) nx) rfl ⟨[], ?_, by simp, fun x => by simp⟩ (Nat.zero_le _) ?_ ?_
    · exact congrArg (fun a => (natL o', a, _)) (cT_congr fun v _ => by simp)
    · rintro j _ _ hj ⟨nx, rfl, hN⟩
      obtain ⟨w, hw, hwn⟩ := nb_get hV hv hj
      have hgj : getI adj[o'[i]] (j : Int) = some (w : Int) := getN_some (by rw [List.getElem?_eq_getElem hj, hw])
      have hlen := hN.lt (n := adj.length) (fun x hx => by have := (hV.asc _ hv).2 _ (List.mem_of_mem_take hx); omega)
      simp (disch := omega) only [cond_dec, if_pos, hgj, cT_length, idxN_nat, cT_at, Option.bind_some, cond_not_dec]
      by_cases hs : w ∈ o' ∨ w ∈ nx
      · rw [if_pos hs]
        simp (disch := omega) only [Option.bind_some, wrap_inc]
        exact Ok.some_iff.2 ⟨rfl, nx, rfl, hN.old hs (take_mem_succ hj hw)⟩
      · rw [if_neg hs]
        simp (disch := first | omega | (simp [natL_length]; omega)) only [Option.bind_some, limO_ok, cT_at, cT_set, idxN_nat, cT_length, wrap_inc]
        refine Ok.some_iff.2 ⟨rfl, nx ++ [w], ?_, hN.add hs (take_mem_succ hj hw)⟩
        rw [natL_append]
        exact congrArg (fun a => (natL o', a, _)) (cT_congr fun x _ => by rw [List.mem_append, List.mem_singleton, or_assoc])
    · rintro _ ⟨nx, rfl, hN⟩
      simp (disch := omega) only [cond_dec, if_neg]
      refine Ok.some_iff.2 ⟨nx, rfl, hN.congr fun x => ?_⟩
      rw [List.take_length]
      exact ⟨fun h => ⟨hv, h⟩, fun h => h.2⟩
  · rintro _ ⟨nx, rfl, hN⟩
    have hlen := hN.lt (n := adj.length) (fun x hx => (hx.lt hV).2)
    obtain ⟨s, h1, h2, h3⟩ := SortFunc_ok (adj := adj) hN.1 (fun x hx => (((hN.2 x).1 hx).2.lt hV).2) (by omega)
    have hI : IsNx adj o' o'[i] s := ⟨h3, fun x => by rw [h2.mem_iff, hN.2 x, and_comm]⟩
    have hsl := h2.length_eq
    simp (disch := first | omega | (simp [natL_length]; omega)) only [h1, Option.bind_some, limO_ok, wrap_inc]
    obtain ⟨n1, n2⟩ := nx_step hV hn hd3 hd4 hio
    rw [hI.eq] at n1 n2
    refine Ok.some_iff.2 ⟨⟨i + 1, o' ++ s, d, ?_, ?_, by omega, n1, n2, by simp; omega⟩, by simp only [Int.toNat_natCast]; omega⟩
    · rw [natL_append]
      refine congrArg (fun a => (((i + 1 : Nat) : Int), natL o' ++ natL s, a, ())) (cT_congr fun x _ => ?_)
      rw [List.mem_append, h2.mem_iff]
    · rw [← hd1]
      conv => rhs; unfold growF
      rw [dif_pos hio, hI.eq]
open Classical in
noncomputable def dsV (adj : List (List Int)) (u x : Nat) : Nat := if h : ∃ k, AtK (Nb adj) u k x then h.choose else 0
omit hV hn in
theorem dsV_eq {u k x : Nat} (h : AtK (Nb adj) u k x) : dsV adj u x = k := by
  unfold dsV
  rw [dif_pos ⟨k, h⟩]
  exact (Exists.choose_spec (p := fun k => AtK (Nb adj) u k x) ⟨k, h⟩).uniq h
omit hV hn in
theorem dsV_is {u x : Nat} (h : Rc adj u x) : AtK (Nb adj) u (dsV adj u x) x := by
  obtain ⟨k, hk⟩ := h
  obtain ⟨k', _, h'⟩ := AtK.exists hk
  rw [dsV_eq h']; exact h'
omit hV hn in
theorem dsV_le {u x k : Nat} (h : PathN (Nb adj) u k x) : dsV adj u x ≤ k := by
  obtain ⟨k', h1, h2⟩ := AtK.exists h
  rw [dsV_eq h2]; exact h1
omit hV hn in
theorem dsV_nb {u x y : Nat} (h : Rc adj u x) (hn : Nb adj x y) : dsV adj u y ≤ dsV adj u x + 1 := dsV_le ((dsV_is h).1.succ hn)
structure BF (adj : List (List Int)) (st : Nat) (q : List Nat) (i : Nat) : Prop where
  nd : q.Nodup
  rc : ∀ x ∈ q, Rc adj st x
  inn : st ∈ q
  cl : ∀ j, (h : j < q.length) → j < i → ∀ w, Nb adj q[j] w → w ∈ q
  so : ∀ j k, (hj : j < q.length) → (hk : k < q.length) → j < k → dsV adj st q[j] ≤ dsV adj st q[k]
  up : (h : i < q.length) → ∀ x ∈ q, dsV adj st x ≤ dsV adj st q[i] + 1
  le : i ≤ q.length
omit hV hn in
theorem BF.near {st : Nat} {q : List Nat} {i : Nat} (h : BF adj st q i) (hi : i < q.length) : ∀ d x, AtK (Nb adj) st d x → d ≤ dsV adj st q[i] → x ∈ q := by
  intro d
  induction d with
  | zero =>
    intro x hx _
    cases hx.1
    exact h.inn
  | succ d ih =>
    intro x hx hd
    obtain ⟨m, hm, ha⟩ := hx.pred
    obtain ⟨j, hj, rfl⟩ := List.mem_iff_getElem.1 (ih m hm (by omega))
    refine h.cl j hj ?_ x ha
    rcases Nat.lt_trichotomy j i with hji | hji | hji
    · exact hji
    · subst hji; have := dsV_eq hm; omega
    · have := h.so i j hi hj hji
      have := dsV_eq hm
      omega
theorem BF.step {o : List Nat} {st : Nat} {q : List Nat} {i : Nat} (h : BF adj st q i) (hi : i < q.length) (ho : ∀ x ∈ o, ¬ Rc adj st x) :
    BF adj st (q ++ nxV adj (o ++ q) q[i]) (i + 1) := by
  have hN := nx_is hV hn (o ++ q) q[i]
  have hri := h.rc _ (List.getElem_mem hi)
  have hnew : ∀ x ∈ nxV adj (o ++ q) q[i], Rc adj st x ∧ x ∉ q ∧ dsV adj st x = dsV adj st q[i] + 1 := by
    intro x hx
    obtain ⟨h1, h2⟩ := (hN.mem x).1 hx
    have hxq : x ∉ q := fun h3 => h2 (List.mem_append_right _ h3)
    have hr : Rc adj st x := hri.trans ⟨1, .succ .zero h1⟩
    refine ⟨hr, hxq, ?_⟩
    have h3 := dsV_nb hri h1
    have h4 : ¬ dsV adj st x ≤ dsV adj st q[i] := fun h4 => hxq (h.near hi _ x (dsV_is hr) h4)
    omega
  refine ⟨List.nodup_append.2 ⟨h.nd, hN.nodup, fun a ha b hb e => by subst e; exact (hnew a hb).2.1 ha⟩, fun x hx => ?_, List.mem_append_left _ h.inn, fun j hj hji w hw => ?_, fun j k hj hk hjk => ?_, fun hi' x hx => ?_, by rw [List.length_append]; omega⟩
  · rcases List.mem_append.1 hx with hx | hx
    · exact h.rc x hx
    · exact (hnew x hx).1
  · have hjq : j < q.length := by omega
    rw [List.getElem_append_left hjq] at hw
    rcases Nat.lt_or_ge j i with h1 | h1
    · exact List.mem_append_left _ (h.cl j hjq h1 w hw)
    · obtain rfl : j = i := by omega
      by_cases hwq : w ∈ q
      · exact List.mem_append_left _ hwq
      · refine List.mem_append_right _ ((hN.mem w).2 ⟨hw, fun h2 => ?_⟩)
        rcases List.mem_append.1 h2 with h2 | h2
        · exact ho w h2 (hri.trans ⟨1, .succ .zero hw⟩)
        · exact hwq h2
  · by_cases hkq : k < q.length
    · rw [List.getElem_append_left (i := k) hkq, List.getElem_append_left (i := j) (by omega)]
      exact h.so j k (by omega) hkq hjk
    · rw [List.getElem_append_right (i := k) (by omega)]
      have h1 := (hnew _ (List.getElem_mem (l := nxV adj (o ++ q) q[i]) (n := k - q.length) (by rw [List.length_append] at hk; omega))).2.2
      rw [h1]
      by_cases hjq : j < q.length
      · rw [List.getElem_append_left hjq]
        exact h.up hi _ (List.getElem_mem hjq)
      · rw [List.getElem_append_right (i := j) (by omega)]
        exact Nat.le_of_eq (hnew _ (List.getElem_mem _)).2.2
  · have hge : dsV adj st q[i] ≤ dsV adj st (q ++ nxV adj (o ++ q) q[i])[i + 1] := by
      by_cases h1 : i + 1 < q.length
      · rw [List.getElem_append_left h1]
        exact h.so i (i + 1) hi h1 (by omega)
      · rw [List.getElem_append_right (by omega)]
        have := (hnew _ (List.getElem_mem (l := nxV adj (o ++ q) q[i]) (n := i + 1 - q.length) (by rw [List.length_append] at hi'; omega))).2.2
        omega
    rcases List.mem_append.1 hx with hx | hx
    · have := h.up hi x hx; omega
    · have := (hnew x hx).2.2; omega
theorem growF_ok {o : List Nat} {st : Nat} (ho : ∀ x ∈ o, ¬ Rc adj st x) (hst : st < adj.length) : ∀ d q i, BF adj st q i → adj.length < d + i →
    ∃ q', growF adj d (o.length + i) (o ++ q) = o ++ q' ∧ BF adj st q' q'.length := by
  intro d
  induction d with
  | zero =>
    intro q i h hd
    have := nodup_le h.nd (fun x hx => (h.rc x hx).lt hV hst)
    have := h.le
    omega
  | succ d ih =>
    intro q i h hd
    unfold growF
    by_cases hi : i < q.length
    · rw [dif_pos (by rw [List.length_append]; omega)]
      have e : (o ++ q)[o.length + i]'(by rw [List.length_append]; omega) = q[i] := by
        rw [List.getElem_append_right (by omega)]
        simp
      rw [e, List.append_assoc]
      exact ih _ (i + 1) (h.step hV hn hi ho) (by omega)
    · rw [dif_neg (by rw [List.length_append]; omega)]
      have := h.le
      obtain rfl : i = q.length := by omega
      exact ⟨q, rfl, h⟩
theorem growV_ok {o : List Nat} {st : Nat} (ho : ∀ x ∈ o, ¬ Rc adj st x) (hst : st < adj.length) : ∃ q, growV adj st o = o ++ q ∧ BF adj st q q.length := by
  refine growF_ok hV hn ho hst (adj.length + 1) [st] 0 ⟨by simp, fun x hx => ?_, by simp, fun j _ h => by omega, fun j k hj hk hjk => ?_, fun _ x hx => ?_, by simp⟩ (by omega)
  · rw [List.mem_singleton] at hx; subst hx; exact Rc.refl adj x
  · simp at hj hk; omega
  · rw [List.mem_singleton] at hx; subst hx; simp
omit hV hn in
theorem BF.mem {st : Nat} {q : List Nat} (h : BF adj st q q.length) (x : Nat) : x ∈ q ↔ Rc adj st x := by
  refine ⟨h.rc x, ?_⟩
  rintro ⟨k, hk⟩
  induction hk with
  | zero => exact h.inn
  | succ _ ha ih =>
    obtain ⟨j, hj, rfl⟩ := List.mem_iff_getElem.1 ih
    exact h.cl j hj hj _ ha
end
end Go.Fw
end

section
namespace Go.Fw
set_option linter.unusedSimpArgs false
set_option linter.unusedVariables false
open Go
theorem Reverse_eq (l : List Int) (hl : l.length ≤ 4000) : d_slices_Reverse_int_int (l, ()) = some (l.reverse, ()) := by
  have hr : ∀ (n : Nat) (g : Nat → Int), (fT n g).reverse = fT n fun p => g (n - 1 - p) := by
    intro n g
    refine List.ext_getElem (by simp [fT_length]) fun i h1 h2 => ?_
    simp only [List.length_reverse, fT_length] at h1
    rw [List.getElem_reverse, fT_getElem, fT_getElem, fT_length]
  obtain ⟨n, g, hg⟩ : ∃ (n : Nat) (g : Nat → Int), l = fT n g := ⟨_, _, fT_self l⟩
  subst hg
  rw [fT_length] at hl
  rw [hr]
  unfold d_slices_Reverse_int_int
  simp only [fT_length]
  rw [← Ok.eq_iff]
  refine Ok.bind_of (P := fun r => r = (fT n fun p => g (n - 1 - p), ())) ?_ (by rintro _ rfl; exact Ok.some_iff.2 rfl)
  rcases Nat.eq_zero_or_pos n with hz | hpos
  · subst hz
    refine Ok.loop (fun s => s = ((0 : Int), -1, fT 0 g, ())) (fun _ => 0) (by rw [wrap64] <;> first | rfl | omega) ?_
    rintro _ rfl
    simp only [cond_dec]
    rw [if_neg (by omega)]
    exact Ok.some_iff.2 rfl
  rw [wrap_pred (by omega) (by omega)]
  refine Ok.loop (fun s => ∃ i j : Nat, i + j = n - 1 ∧ i ≤ j + 1 ∧ s = ((i : Int), (j : Int), fT n (fun p => if p < i ∨ j < p then g (n - 1 - p) else g p), ())) (fun s => n - s.1.toNat) ⟨0, n - 1, by omega, by omega, ?_⟩ ?_
  · exact congrArg (fun a => ((0 : Int), ((n - 1 : Nat) : Int), a, ())) (fT_congr fun p hp => by rw [if_neg (by omega)])
  · rintro _ ⟨i, j, h1, h2, rfl⟩
    simp only [cond_dec, fT_length]
    refine Ok.ite (fun h => ?_) (fun h => ?_)
    · have hij : i < j := by omega
      simp (disch := omega) only [idxN_nat, Option.bind_some, fT_length, atO_fT, fT_set, wrap_inc, wrap_pred]
      refine Ok.some_iff.2 ⟨⟨i + 1, j - 1, by omega, by omega, ?_⟩, by simp only [Int.toNat_natCast]; omega⟩
      refine congrArg (fun a => (((i + 1 : Nat) : Int), ((j - 1 : Nat) : Int), a, ())) (fT_congr fun p hp => ?_)
      simp only [upd]
      by_cases c1 : p = j
      · subst c1
        rw [if_pos rfl, if_neg (by omega), if_pos (by omega)]
        congr 1; omega
      · rw [if_neg c1]
        by_cases c2 : p = i
        · subst c2
          rw [if_pos rfl, if_neg (by omega), if_pos (by omega)]
          congr 1; omega
        · rw [if_neg c2]
          by_cases c3 : p < i ∨ j < p
          · rw [if_pos c3, if_pos (by omega)]
          · rw [if_neg c3, if_neg (by omega)]
    · refine Ok.some_iff.2 ?_
      refine congrArg (fun a => (a, ())) (fT_congr fun p hp => ?_)
      by_cases c3 : p < i ∨ j < p
      · rw [if_pos c3]
      · rw [if_neg c3]; congr 1; omega
theorem asc_take {l : List Int} (h : l.Pairwise (· < ·)) {j : Nat} (hj : j < l.length) {x : Int} (hx : x ∈ l.take j) : x < l[j] := by
  obtain ⟨k, hk, rfl⟩ := List.mem_iff_getElem.1 hx
  rw [List.length_take] at hk
  rw [List.getElem_take]
  exact List.pairwise_iff_getElem.1 h k j (by omega) hj (by omega)
theorem cond_not_beq {α : Type} {p : Prop} [Decidable p] {x y : α} : (bif (!decide p) == true then x else y) = if p then y else x := by
  by_cases h : p <;> simp [h]
noncomputable def ordV (adj : List (List Int)) (k : Nat) : List Nat := ((fstN adj adj.length).take k).foldl (fun o v => growV adj (perV adj v) o) []
theorem ordV_succ (adj : List (List Int)) {k : Nat} (h : k < (fstN adj adj.length).length) : ordV adj (k + 1) = growV adj (perV adj (fstN adj adj.length)[k]) (ordV adj k) := by
  unfold ordV
  rw [← take_snoc h, List.foldl_append]
  rfl
theorem fstN_asc (adj : List (List Int)) (k : Nat) : (fstN adj k).Pairwise (· < ·) := by
  classical
  exact List.Pairwise.filter _ List.pairwise_lt_range
theorem fstN_is {adj : List (List Int)} {k v : Nat} (h : v ∈ fstN adj k) : v < k ∧ Fst adj v := by
  classical
  unfold fstN at h
  simpa using h
section
variable {adj : List (List Int)} (hV : Valid adj) (hn : adj.length ≤ 12)
include hV hn
omit hn in
theorem cmpV_head {v : Nat} (hv : v < adj.length) (hf : Fst adj v) : getI (cmpV adj v) 0 = some (v : Int) := by
  have hm : (v : Int) ∈ cmpV adj v := mem_natL.2 ((mem_cmpN hV hv).2 (Rc.refl adj v))
  have hp : 0 < (cmpV adj v).length := List.length_pos_of_mem hm
  have hge : ∀ x ∈ cmpV adj v, (v : Int) ≤ x := by
    intro x hx
    obtain ⟨y, hy, rfl⟩ := List.mem_map.1 hx
    have h1 := (mem_cmpN hV hv).1 hy
    rcases Nat.lt_or_ge y v with h | h
    · exact absurd (h1.symm hV) (hf y h)
    · omega
  refine getN_some (i := 0) ?_
  rw [List.getElem?_eq_getElem hp]
  congr 1
  obtain ⟨j, hj, he⟩ := List.mem_iff_getElem.1 hm
  have h1 := hge _ (List.getElem_mem hp)
  rcases Nat.eq_zero_or_pos j with h | h
  · subst h; exact he
  · have := List.pairwise_iff_getElem.1 (cmpV_asc adj v) 0 j hp hj h
    omega
theorem ordV_ok : ∀ k, k ≤ (fstN adj adj.length).length → (ordV adj k).Nodup ∧ (∀ x, x ∈ ordV adj k ↔ ∃ v ∈ (fstN adj adj.length).take k, Rc adj v x) ∧ ∀ x ∈ ordV adj k, x < adj.length := by
  intro k
  induction k with
  | zero => intro _; exact ⟨by simp [ordV], by simp [ordV], by simp [ordV]⟩
  | succ k ih =>
    intro hk
    obtain ⟨i1, i2, i3⟩ := ih (by omega)
    obtain ⟨v1, v2⟩ := fstN_is (List.getElem_mem (l := fstN adj adj.length) (n := k) hk)
    obtain ⟨p1, p2⟩ := perV_ok hV (by omega) v1
    have hap : ∀ x ∈ ordV adj k, ¬ Rc adj (perV adj (fstN adj adj.length)[k]) x := by
      intro x hx hr
      obtain ⟨u, hu, hux⟩ := (i2 x).1 hx
      obtain ⟨j, hj, rfl⟩ := List.mem_iff_getElem.1 hu
      rw [List.length_take] at hj
      rw [List.getElem_take] at hux
      have hlt := List.pairwise_iff_getElem.1 (fstN_asc adj adj.length) j k (by omega) hk (by omega)
      exact v2 _ hlt (hux.trans ((p2.trans hr).symm hV))
    obtain ⟨q, hq, hB⟩ := growV_ok hV hn hap p1
    rw [ordV_succ adj hk, hq]
    have hmem : ∀ x, x ∈ q ↔ Rc adj (fstN adj adj.length)[k] x := fun x => by
      rw [hB.mem x]
      exact ⟨fun h => p2.trans h, fun h => (p2.symm hV).trans h⟩
    refine ⟨List.nodup_append.2 ⟨i1, hB.nd, fun a ha b hb e => ?_⟩, fun x => ?_, fun x hx => ?_⟩
    · subst e; exact hap a ha ((hB.mem a).1 hb)
    · rw [List.mem_append, i2 x, hmem x, ← take_snoc hk]
      simp only [List.mem_append, List.mem_singleton]
      constructor
      · rintro (⟨v, h1, h2⟩ | h)
        · exact ⟨v, .inl h1, h2⟩
        · exact ⟨_, .inr rfl, h⟩
      · rintro ⟨v, h1 | h1, h2⟩
        · exact .inl ⟨v, h1, h2⟩
        · subst h1; exact .inr h2
    · rcases List.mem_append.1 hx with hx | hx
      · exact i3 x hx
      · exact ((hmem x).1 hx).lt hV v1
theorem ordV_apart {k : Nat} (hk : k < (fstN adj adj.length).length) : ∀ x ∈ ordV adj k, ¬ Rc adj (perV adj (fstN adj adj.length)[k]) x := by
  obtain ⟨i1, i2, i3⟩ := ordV_ok hV hn k (by omega)
  obtain ⟨v1, v2⟩ := fstN_is (List.getElem_mem (l := fstN adj adj.length) (n := k) hk)
  obtain ⟨p1, p2⟩ := perV_ok hV (by omega) v1
  intro x hx hr
  obtain ⟨u, hu, hux⟩ := (i2 x).1 hx
  obtain ⟨j, hj, rfl⟩ := List.mem_iff_getElem.1 hu
  rw [List.length_take] at hj
  rw [List.getElem_take] at hux
  have hlt := List.pairwise_iff_getElem.1 (fstN_asc adj adj.length) j k (by omega) hk (by omega)
  exact v2 _ hlt (hux.trans ((p2.trans hr).symm hV))
noncomputable def cmV (adj : List (List Int)) : List Nat := ordV adj (fstN adj adj.length).length
omit hV in
theorem cmpL_get {k : Nat} (hk : k < (fstN adj adj.length).length) : (cmpL adj adj.length)[k]? = some (cmpV adj (fstN adj adj.length)[k]) := by
  unfold cmpL
  simp [hk]
theorem Order_eq : d_rcm_Order ((adj, ()), ()) = some (natL (cmV adj).reverse, 0, ()) := by
  classical
  have hn2 : adj.length ≤ 200 := by omega
  have h0 : chk adj = 0 := chk_zero.2 ⟨hn2, hV⟩
  have hfl : (fstN adj adj.length).length ≤ adj.length := by unfold fstN; exact Nat.le_trans (List.length_filter_le _ _) (by simp)
  have hcl : (cmpL adj adj.length).length = (fstN adj adj.length).length := by simp [cmpL]
  unfold d_rcm_Order
  simp only [Check_eq adj (hV.hc hn2), Option.bind_some, h0, bne_self_eq_false, cond_false]
  simp (disch := omega) only [madeO_ok, Option.bind_some, cT_none, Components_eq hV hn]
  refine bindR (natL (cmV adj), ()) ?_ (loop_for (fstN adj adj.length).length (fun k => (natL (ordV adj k), cT adj.length (fun x => x ∈ ordV adj k), cmpL adj adj.length, ())) 0 rfl ?_ (Nat.zero_le _) ?_ ?_)
  · have hl : (natL (cmV adj)).length ≤ 4000 := by
      obtain ⟨h1, _, h3⟩ := ordV_ok hV hn _ (Nat.le_refl _)
      have := nodup_le h1 h3
      rw [natL_length]; unfold cmV; omega
    simp only [Reverse_eq _ hl, Option.bind_some]
    rw [show (natL (cmV adj)).reverse = natL (cmV adj).reverse by simp [natL]]
  · exact congrArg (fun a => (([] : List Int), a, cmpL adj adj.length, ())) (cT_congr fun v _ => by simp [ordV])
  · intro k _ hk
    obtain ⟨v1, v2⟩ := fstN_is (List.getElem_mem (l := fstN adj adj.length) (n := k) hk)
    obtain ⟨p1, p2⟩ := perV_ok hV hn2 v1
    obtain ⟨i1, i2, i3⟩ := ordV_ok hV hn k (by omega)
    have hs : perV adj (fstN adj adj.length)[k] ∉ ordV adj k := fun h => ordV_apart hV hn hk _ h (Rc.refl adj _)
    simp (disch := omega) only [cond_dec, hcl, if_pos, idxN_nat, Option.bind_some, atO_some (cmpL_get hn hk), cmpV_head hV v1 v2, Peripheral_eq hV hn v1, grow_eq hV hn p1 i1 i3 hs, wrap_inc, ordV_succ adj hk]
  · simp (disch := omega) only [cond_dec, hcl, if_neg]
    rfl
theorem refOrder_eq : d_sparseref17q_Order ((adj, ()), ()) = some (natL (cmV adj).reverse, 0, ()) := by
  classical
  have hn2 : adj.length ≤ 200 := by omega
  have h0 : chk adj = 0 := chk_zero.2 ⟨hn2, hV⟩
  have hfl : (fstN adj adj.length).length ≤ adj.length := by unfold fstN; exact Nat.le_trans (List.length_filter_le _ _) (by simp)
  have hcl : (cmpL adj adj.length).length = (fstN adj adj.length).length := by simp [cmpL]
  unfold d_sparseref17q_Order
  simp only [refCheck_eq adj (hV.hc hn2), Option.bind_some, h0, bne_self_eq_false, cond_false]
  simp (disch := omega) only [madeO_ok, Option.bind_some, cT_none, refComponents_eq hV hn2]
  refine bindR (natL (cmV adj), ()) ?_ (loop_for (fstN adj adj.length).length (fun k => (cT adj.length (fun x => x ∈ ordV adj k), natL (ordV adj k), ())) 0 rfl ?_ (Nat.zero_le _) ?_ ?_)
  · have hl : (natL (cmV adj)).length ≤ 12 := by
      obtain ⟨h1, _, h3⟩ := ordV_ok hV hn _ (Nat.le_refl _)
      have := nodup_le h1 h3
      rw [natL_length]; unfold cmV; omega
    rw [show natL (cmV adj).reverse = (natL (cmV adj)).reverse by simp [natL]]
    generalize natL (cmV adj) = l at hl
    have hw : IntKind.i64.wrap ((l.length : Int) - 1) = (l.length : Int) - 1 := by rw [wrap64] <;> omega
    simp only [hw]
    refine bindR (l.reverse, ()) rfl (loop_seq l.length (fun k => ((l.length : Int) - 1 - k, l, l.reverse.take k, ())) 0 (by simp) (Nat.zero_le _) ?_ ?_)
    · intro k _ hk
      have e1 : (l.length : Int) - 1 - k = ((l.length - 1 - k : Nat) : Int) := by omega
      have hg : l[l.length - 1 - k]? = some (l.reverse[k]'(by simpa using hk)) := by
        rw [List.getElem_reverse]
        exact List.getElem?_eq_getElem _
      have hlt : (l.reverse.take k).length ≤ k := by rw [List.length_take]; omega
      have e2 : IntKind.i64.wrap (((l.length - 1 - k : Nat) : Int) - 1) = (l.length : Int) - 1 - ((k + 1 : Nat) : Int) := by rw [wrap64] <;> omega
      rw [e1]
      simp (disch := first | omega | (simp; omega)) only [cond_dec, if_pos, idxN_nat, Option.bind_some, atO_some hg, limO_ok, e2]
      rw [take_snoc (by simpa using hk)]
    · simp (disch := omega) only [cond_dec, if_neg]
      rw [List.take_of_length_le (by simp)]
  · exact congrArg (fun a => (a, ([] : List Int), ())) (cT_congr fun v _ => by simp [ordV])
  · intro k _ hk
    obtain ⟨v1, v2⟩ := fstN_is (List.getElem_mem (l := fstN adj adj.length) (n := k) hk)
    obtain ⟨p1, p2⟩ := perV_ok hV hn2 v1
    obtain ⟨i1, i2, i3⟩ := ordV_ok hV hn k (by omega)
    have hs : perV adj (fstN adj adj.length)[k] ∉ ordV adj k := fun h => ordV_apart hV hn hk _ h (Rc.refl adj _)
    have hgc : getI (cmpL adj adj.length) (k : Int) = some (cmpV adj (fstN adj adj.length)[k]) := getN_some (cmpL_get hn hk)
    have hol := nodup_le i1 i3
    simp (disch := first | omega | (simp [natL_length]; omega)) only [cond_dec, hcl, if_pos, Option.bind_some, hgc, cmpV_head hV v1 v2, refPeripheral_eq hV hn2 v1, limO_ok, cT_length, idxN_nat, cT_at, cT_set]
    rw [ordV_succ adj hk]
    generalize perV adj (fstN adj adj.length)[k] = st at *
    generalize ordV adj k = o at *
    clear i2 hgc
    refine bindR (cT adj.length (fun x => x ∈ growV adj st o), natL (growV adj st o), ()) (by simp (disch := omega) only [wrap_inc]) ?_
    rw [← Ok.eq_iff]
    refine Ok.loop (fun s => ∃ (i : Nat) (o' : List Nat) (d : Nat), s = ((i : Int), cT adj.length (fun x => x ∈ o'), natL o', ()) ∧ growF adj d i o' = growV adj st o ∧ adj.length < d + i ∧ o'.Nodup ∧ (∀ x ∈ o', x < adj.length) ∧ i ≤ o'.length) (fun s => adj.length + 1 - s.1.toNat) ⟨o.length, o ++ [st], adj.length + 1, ?_, rfl, by omega, ?_, ?_, by simp⟩ ?_
    · rw [natL_append, natL_length]
      exact congrArg (fun a => ((o.length : Int), a, natL o ++ natL [st], ())) (cT_congr fun v _ => by simp)
    · exact List.nodup_append.2 ⟨i1, by simp, fun a ha b hb e => by rw [List.mem_singleton] at hb; subst hb; subst e; exact hs ha⟩
    · intro x h
      rcases List.mem_append.1 h with h | h
      · exact i3 x h
      · rw [List.mem_singleton] at h; omega
    rintro _ ⟨i, o', d, rfl, hd1, hd2, hd3, hd4, hi⟩
    have hol' := nodup_le hd3 hd4
    simp only [cond_dec, natL_length]
    refine Ok.ite (fun h => ?_) (fun h => ?_)
    rotate_left
    · have : o' = growV adj st o := by
        rw [← hd1]
        cases d with
        | zero => rfl
        | succ d => unfold growF; rw [dif_neg (by omega)]
      rw [← this]
      exact Ok.some_iff.2 rfl
    have hio : i < o'.length := by omega
    obtain ⟨d, rfl⟩ : ∃ e, d = e + 1 := ⟨d - 1, by omega⟩
    have hv := hd4 _ (List.getElem_mem hio)
    generalize hvd : o'[i] = v at hv
    have hga : getI adj (v : Int) = some adj[v] := getN_some (List.getElem?_eq_getElem hv)
    have hvl := (hV.asc _ hv).length
    have hgs : ∀ s : List Nat, (natL (o' ++ s))[i]? = some (v : Int) := fun s => by
      rw [natL_append, List.getElem?_append_left (by rw [natL_length]; omega)]
      simp [natL, hio, hvd]
    obtain ⟨n1, n2⟩ := nx_step hV hn hd3 hd4 hio
    rw [hvd] at n1 n2
    refine Ok.bind_of (P := fun q => q = (cT adj.length (fun x => x ∈ o' ++ nxV adj o' v), natL (o' ++ nxV adj o' v), ())) ?_ ?_
    rotate_left
    · rintro _ rfl
      simp (disch := omega) only [wrap_inc]
      refine Ok.some_iff.2 ⟨⟨i + 1, _, d, rfl, ?_, by omega, n1, n2, by rw [List.length_append]; omega⟩, by simp only [Int.toNat_natCast]; omega⟩
      rw [← hd1]
      conv => rhs; unfold growF
      rw [dif_pos hio, hvd]
    -- one after the other, the least that is left
    refine Ok.loop (fun t => ∃ s : List Nat, t = (cT adj.length (fun x => x ∈ o' ∨ x ∈ s), natL (o' ++ s), ()) ∧ s.Pairwise (lexN adj) ∧ (∀ x ∈ s, Nb adj v x ∧ x ∉ o') ∧ ∀ w, Nb adj v w → ¬ (w ∈ o' ∨ w ∈ s) → ∀ x ∈ s, lexN adj x w) (fun t => adj.length + 1 - t.2.1.length) ⟨[], ?_, by simp, by simp, by simp⟩ ?_
    · rw [List.append_nil]
      exact congrArg (fun a => (a, natL o', ())) (cT_congr fun x _ => by simp)
    rintro _ ⟨s, rfl, hs1, hs2, hs3⟩
    have hsd : (o' ++ s).Nodup := List.nodup_append.2 ⟨hd3, List.nodup_iff_pairwise_ne.2 (hs1.imp fun h e => by subst e; exact lexN.asym _ _ h h), fun a ha b hb e => by subst e; exact (hs2 a hb).2 ha⟩
    have hsl := nodup_le hsd (n := adj.length) (fun x hx => by
      rcases List.mem_append.1 hx with hx | hx
      · exact hd4 x hx
      · exact ((hs2 x hx).1.lt hV).2)
    have hos := hgs s
    have hosl : i < (natL (o' ++ s)).length := by rw [natL_length, List.length_append]; omega
    have hosl2 : (natL (o' ++ s)).length ≤ adj.length := by rw [natL_length]; exact hsl
    refine Ok.bind_of (P := fun q => ∃ b : Int, q = (b, cT adj.length (fun x => x ∈ o' ∨ x ∈ s), natL (o' ++ s), ()) ∧ ((b = -1 ∧ ∀ w : Nat, (w : Int) ∈ adj[v] → w ∈ o' ∨ w ∈ s) ∨ ∃ u : Nat, b = (u : Int) ∧ (u : Int) ∈ adj[v] ∧ ¬ (u ∈ o' ∨ u ∈ s) ∧ ∀ w : Nat, (w : Int) ∈ adj[v] → ¬ (w ∈ o' ∨ w ∈ s) → w = u ∨ lexN adj u w)) ?_ ?_
    · refine Ok.seq adj[v].length (fun j t => ∃ b : Int, t = (b, (j : Int), cT adj.length (fun x => x ∈ o' ∨ x ∈ s), natL (o' ++ s), ()) ∧ ((b = -1 ∧ ∀ w : Nat, (w : Int) ∈ adj[v].take j → w ∈ o' ∨ w ∈ s) ∨ ∃ u : Nat, b = (u : Int) ∧ (u : Int) ∈ adj[v].take j ∧ ¬ (u ∈ o' ∨ u ∈ s) ∧ ∀ w : Nat, (w : Int) ∈ adj[v].take j → ¬ (w ∈ o' ∨ w ∈ s) → w = u ∨ lexN adj u w)) 0 ⟨-1, rfl, .inl ⟨rfl, by simp⟩⟩ (Nat.zero_le _) ?_ ?_
      · rintro j _ _ hj ⟨b, rfl, hb⟩
        obtain ⟨w, hw, hwn⟩ := nb_get hV hv hj
        have hgj : getI adj[v] (j : Int) = some (w : Int) := getN_some (by rw [List.getElem?_eq_getElem hj, hw])
        have hgw : getI adj (w : Int) = some adj[w] := getN_some (List.getElem?_eq_getElem hwn)
        have hts := take_mem_succ hj hw
        simp (disch := omega) only [cond_dec, idxN_nat, Option.bind_some, atO_some hos, hga, if_pos, hgj, cT_length, cT_at, cond_not_beq]
        by_cases hpl : w ∈ o' ∨ w ∈ s
        · rw [if_pos hpl]
          simp (disch := omega) only [Option.bind_some, cond_false, wrap_inc]
          refine Ok.some_iff.2 ⟨b, rfl, ?_⟩
          rcases hb with ⟨h1, h2⟩ | ⟨u, h1, h2, h3, h4⟩
          · refine .inl ⟨h1, fun x hx => ?_⟩
            rcases (hts x).1 hx with hx | rfl
            · exact h2 x hx
            · exact hpl
          · refine .inr ⟨u, h1, (hts u).2 (.inl h2), h3, fun x hx hnx => ?_⟩
            rcases (hts x).1 hx with hx | rfl
            · exact h4 x hx hnx
            · exact absurd hpl hnx
        · rw [if_neg hpl]
          rcases hb with ⟨rfl, h2⟩ | ⟨u, rfl, h2, h3, h4⟩
          · simp (disch := omega) only [cond_dec_beqF, if_pos, Option.bind_some, cond_true, wrap_inc]
            refine Ok.some_iff.2 ⟨(w : Int), rfl, .inr ⟨w, rfl, (hts w).2 (.inr rfl), hpl, fun x hx hnx => ?_⟩⟩
            rcases (hts x).1 hx with hx | rfl
            · exact absurd (h2 x hx) hnx
            · exact .inl rfl
          · have hul : u < adj.length := by have := (hV.asc v hv).2 _ (List.mem_of_mem_take h2); omega
            have hgu : getI adj (u : Int) = some adj[u] := getN_some (List.getElem?_eq_getElem hul)
            have duw : dgV adj (u : Int) = adj[u].length ∧ dgV adj (w : Int) = adj[w].length := ⟨by simp [dgV, hul], by simp [dgV, hwn]⟩
            have huw := asc_take (hV.asc v hv).1 hj h2
            rw [hw] at huw
            simp (disch := omega) only [cond_dec_beqF, if_neg, Option.bind_some, hgw, hgu, cond_dec]
            by_cases hlt : ((adj[w].length : Nat) : Int) < ((adj[u].length : Nat) : Int)
            · rw [if_pos hlt]
              simp (disch := omega) only [Option.bind_some, wrap_inc]
              refine Ok.some_iff.2 ⟨(w : Int), rfl, .inr ⟨w, rfl, (hts w).2 (.inr rfl), hpl, fun x hx hnx => ?_⟩⟩
              have hwu : lexN adj w u := .inl (by omega)
              rcases (hts x).1 hx with hx | rfl
              · rcases h4 x hx hnx with rfl | h
                · exact .inr hwu
                · exact .inr (hwu.trans h)
              · exact .inl rfl
            · rw [if_neg hlt]
              simp (disch := omega) only [Option.bind_some, wrap_inc]
              refine Ok.some_iff.2 ⟨(u : Int), rfl, .inr ⟨u, rfl, (hts u).2 (.inl h2), h3, fun x hx hnx => ?_⟩⟩
              rcases (hts x).1 hx with hx | rfl
              · exact h4 x hx hnx
              · refine .inr ?_
                unfold lexN lexI
                omega
      · rintro _ ⟨b, rfl, hb⟩
        simp (disch := omega) only [cond_dec, idxN_nat, Option.bind_some, atO_some hos, hga, if_neg]
        rw [List.take_length] at hb
        exact Ok.some_iff.2 ⟨b, rfl, hb⟩
    · rintro _ ⟨b, rfl, hb⟩
      simp only [cond_dec]
      rcases hb with ⟨rfl, h2⟩ | ⟨u, rfl, h2, h3, h4⟩
      · rw [if_pos (by omega)]
        have hI : IsNx adj o' v s := ⟨hs1, fun x => ⟨fun h => hs2 x h, fun h => (h2 x h.1.2).resolve_left h.2⟩⟩
        rw [hI.eq]
        exact Ok.some_iff.2 (congrArg (fun a => (a, natL (o' ++ s), ())) (cT_congr fun x _ => by rw [List.mem_append]))
      · rw [if_neg (by omega)]
        have hul : u < adj.length := by have := (hV.asc v hv).2 _ h2; omega
        have hnu : Nb adj v u := ⟨hv, h2⟩
        simp (disch := first | omega | (simp only [List.length_singleton]; omega)) only [limO_ok, Option.bind_some, cT_length, idxN_nat, cT_at, cT_set]
        refine Ok.some_iff.2 ⟨⟨s ++ [u], ?_, ?_, ?_, ?_⟩, ?_⟩
        · rw [← List.append_assoc, natL_append (o' ++ s) [u]]
          exact congrArg (fun a => (a, natL (o' ++ s) ++ natL [u], ())) (cT_congr fun x _ => by rw [List.mem_append, List.mem_singleton, or_assoc])
        · exact List.pairwise_append.2 ⟨hs1, by simp, fun a ha b hb => by rw [List.mem_singleton] at hb; subst hb; exact hs3 b hnu h3 a ha⟩
        · intro x hx
          rcases List.mem_append.1 hx with hx | hx
          · exact hs2 x hx
          · rw [List.mem_singleton] at hx; subst hx; exact ⟨hnu, fun h => h3 (.inl h)⟩
        · intro w hw hnw x hx
          have hnw2 : ¬ (w ∈ o' ∨ w ∈ s) := fun h => hnw (h.imp id fun h => List.mem_append_left _ h)
          rcases List.mem_append.1 hx with hx | hx
          · exact hs3 w hw hnw2 x hx
          · rw [List.mem_singleton] at hx; subst hx
            rcases h4 w hw.2 hnw2 with rfl | h
            · exact absurd (.inr (List.mem_append_right _ (List.mem_singleton_self _))) hnw
            · exact h
        · rw [List.length_append, List.length_singleton]; omega
  · simp (disch := omega) only [cond_dec, hcl, if_neg]
    rfl
end
end Go.Fw
end

section
namespace Go.Fw
noncomputable def e_math_bits_Len64 (n_ : Nat) : (Int × Unit) → Option (Int × Unit) := fun (x_1, _) =>
  Option.bind (α := (Int × Int × Unit)) (
  (bif (decide (x_1 ≥ ((4294967296) : Int))) then (
  (shrO IntKind.u64 x_1 ((32) : Int)).bind fun y2 =>
  some (y2, ((32) : Int), ())) else (
  some (x_1, ((0) : Int), ())))) fun (x_3, n_4, _) =>
  Option.bind (α := (Int × Int × Unit)) (
  (bif (decide (x_3 ≥ ((65536) : Int))) then (
  (shrO IntKind.u64 x_3 ((16) : Int)).bind fun y5 =>
  some (y5, (IntKind.i64.wrap (n_4 + ((16) : Int))), ())) else (
  some (x_3, n_4, ())))) fun (x_6, n_7, _) =>
  Option.bind (α := (Int × Int × Unit)) (
  (bif (decide (x_6 ≥ ((256) : Int))) then (
  (shrO IntKind.u64 x_6 ((8) : Int)).bind fun y8 =>
  some (y8, (IntKind.i64.wrap (n_7 + ((8) : Int))), ())) else (
  some (x_6, n_7, ())))) fun (x_9, n_10, _) =>
  (strI lenTab (IntKind.u8.wrap x_9)).bind fun c11 =>
  some ((IntKind.i64.wrap (n_10 + (IntKind.i64.wrap c11))), ())
set_option maxHeartbeats 4000000 in
theorem le_math_bits_Len64 (n_ : Nat) (a : (Int × Unit)) : Le (e_math_bits_Len64 n_ a) (d_math_bits_Len64 a) := by
  unfold e_math_bits_Len64 d_math_bits_Len64
  repeat' (first | with_reducible exact Le.refl _  | (with_reducible refine Le.bind ?_ (fun y => ?_)) | (with_reducible refine Le.bif ?_ ?_) | (with_reducible refine Le.loop (fun s => ?_) _ _) | (with_reducible refine Le.atO (fun e => ?_)) | split)
noncomputable def e_math_bits_Len (n_ : Nat) : (Int × Unit) → Option (Int × Unit) := fun (x_1, _) =>
  (e_math_bits_Len64 n_ (x_1, ())).bind fun (r2, _) =>
  some (r2, ())
set_option maxHeartbeats 4000000 in
theorem le_math_bits_Len (n_ : Nat) (a : (Int × Unit)) : Le (e_math_bits_Len n_ a) (d_math_bits_Len a) := by
  unfold e_math_bits_Len d_math_bits_Len
  repeat' (first | with_reducible exact Le.refl _ | with_reducible exact le_math_bits_Len64 _ _ | (with_reducible refine Le.bind ?_ (fun y => ?_)) | (with_reducible refine Le.bif ?_ ?_) | (with_reducible refine Le.loop (fun s => ?_) _ _) | (with_reducible refine Le.atO (fun e => ?_)) | split)
noncomputable def e_slices_insertionSortOrdered_int (n_ : Nat) : ((List Int) × Int × Int × Unit) → Option ((List Int) × Unit) := fun (data_1, a_2, b_3, _) =>
  (loopN (σ := (Int × (List Int) × Unit)) (ρ := ((List Int) × Unit)) (fun (i_4, data_5, _) =>
  (bif (decide (i_4 < b_3)) then (
  (loopN (σ := (Int × (List Int) × Unit)) (ρ := ((List Int) × Unit)) (fun (j_6, data_7, _) =>
  Option.bind (α := ((List Int) × Unit) ⊕ ((Int × (List Int) × Unit) ⊕ ((List Int) × Unit))) (
  (bif ((decide (j_6 > a_2)) == true) then ((idxN (data_7).length j_6).bind fun k8 =>
  ((atO data_7 k8 fun e9 => some e9)).bind fun y10 =>
  (idxN (data_7).length (IntKind.i64.wrap (j_6 - ((1) : Int)))).bind fun k11 =>
  ((atO data_7 k11 fun e12 => some e12)).bind fun y13 =>
  (e_cmp_Less_int n_ (y10, y13, ())).bind fun (r14, _) =>
  (bif r14 then (
  some (.inl (data_7, ()))) else (
  some (.inr (.inr (data_7, ())))))) else (some (.inr (.inr (data_7, ())))))) fun q => match q with
  | .inl (data_15, _) => (
  (idxN (data_15).length (IntKind.i64.wrap (j_6 - ((1) : Int)))).bind fun k16 =>
  ((atO data_15 k16 fun e17 => some e17)).bind fun y18 =>
  (idxN (data_15).length j_6).bind fun k19 =>
  ((atO data_15 k19 fun e20 => some e20)).bind fun y21 =>
  (idxN (data_15).length j_6).bind fun k22 =>
  ((atO data_15 k22 fun _ => some ((data_15).set k22 y18))).bind fun z24 =>
  (idxN (z24).length (IntKind.i64.wrap (j_6 - ((1) : Int)))).bind fun k25 =>
  ((atO z24 k25 fun _ => some ((z24).set k25 y21))).bind fun z27 =>
  some (.inl ((IntKind.i64.wrap (j_6 - ((1) : Int))), z27, ())))
  | .inr r => some r) n_ (i_4, data_5, ())).bind fun (data_28, _) =>
  some (.inl ((IntKind.i64.wrap (i_4 + ((1) : Int))), data_28, ()))) else (
  some (.inr (data_5, ()))))) n_ ((IntKind.i64.wrap (a_2 + ((1) : Int))), data_1, ())).bind fun (data_29, _) =>
  some (data_29, ())
set_option maxHeartbeats 4000000 in
theorem le_slices_insertionSortOrdered_int (n_ : Nat) (a : ((List Int) × Int × Int × Unit)) : Le (e_slices_insertionSortOrdered_int n_ a) (d_slices_insertionSortOrdered_int a) := by
  unfold e_slices_insertionSortOrdered_int d_slices_insertionSortOrdered_int
  repeat' (first | with_reducible exact Le.refl _ | with_reducible exact le_cmp_Less_int _ _ | (with_reducible refine Le.bind ?_ (fun y => ?_)) | (with_reducible refine Le.bif ?_ ?_) | (with_reducible refine Le.loop (fun s => ?_) _ _) | (with_reducible refine Le.atO (fun e => ?_)) | split)
noncomputable def e_slices_siftDownOrdered_int (n_ : Nat) : ((List Int) × Int × Int × Int × Unit) → Option ((List Int) × Unit) := fun (data_1, lo_2, hi_3, first_4, _) =>
  (loopN (σ := (Int × (List Int) × Unit)) (ρ := (((List Int) × Unit) ⊕ ((List Int) × Unit))) (fun (root_5, data_6, _) =>
  (bif (decide ((IntKind.i64.wrap ((IntKind.i64.wrap (((2) : Int) * root_5)) + ((1) : Int))) ≥ hi_3)) then (
  some (.inr (.inl (data_6, ())))) else (
  Option.bind (α := (Int × (List Int) × Unit)) (
  Option.bind (α := (Bool × (List Int) × Unit)) (
  (bif ((decide ((IntKind.i64.wrap ((IntKind.i64.wrap ((IntKind.i64.wrap (((2) : Int) * root_5)) + ((1) : Int))) + ((1) : Int))) < hi_3)) == true) then ((idxN (data_6).length (IntKind.i64.wrap (first_4 + (IntKind.i64.wrap ((IntKind.i64.wrap (((2) : Int) * root_5)) + ((1) : Int)))))).bind fun k7 =>
  ((atO data_6 k7 fun e8 => some e8)).bind fun y9 =>
  (idxN (data_6).length (IntKind.i64.wrap ((IntKind.i64.wrap (first_4 + (IntKind.i64.wrap ((IntKind.i64.wrap (((2) : Int) * root_5)) + ((1) : Int))))) + ((1) : Int)))).bind fun k10 =>
  ((atO data_6 k10 fun e11 => some e11)).bind fun y12 =>
  (e_cmp_Less_int n_ (y9, y12, ())).bind fun (r13, _) =>
  some (r13, data_6, ())) else (some (false, data_6, ())))) fun (s_14, data_15, _) =>
  (bif s_14 then (
  some ((IntKind.i64.wrap ((IntKind.i64.wrap ((IntKind.i64.wrap (((2) : Int) * root_5)) + ((1) : Int))) + ((1) : Int))), data_15, ())) else (
  some ((IntKind.i64.wrap ((IntKind.i64.wrap (((2) : Int) * root_5)) + ((1) : Int))), data_15, ())))) fun (child_16, data_17, _) =>
  (idxN (data_17).length (IntKind.i64.wrap (first_4 + root_5))).bind fun k18 =>
  ((atO data_17 k18 fun e19 => some e19)).bind fun y20 =>
  (idxN (data_17).length (IntKind.i64.wrap (first_4 + child_16))).bind fun k21 =>
  ((atO data_17 k21 fun e22 => some e22)).bind fun y23 =>
  (e_cmp_Less_int n_ (y20, y23, ())).bind fun (r24, _) =>
  (bif (!r24) then (
  some (.inr (.inr (data_17, ())))) else (
  (idxN (data_17).length (IntKind.i64.wrap (first_4 + child_16))).bind fun k25 =>
  ((atO data_17 k25 fun e26 => some e26)).bind fun y27 =>
  (idxN (data_17).length (IntKind.i64.wrap (first_4 + root_5))).bind fun k28 =>
  ((atO data_17 k28 fun e29 => some e29)).bind fun y30 =>
  (idxN (data_17).length (IntKind.i64.wrap (first_4 + root_5))).bind fun k31 =>
  ((atO data_17 k31 fun _ => some ((data_17).set k31 y27))).bind fun z33 =>
  (idxN (z33).length (IntKind.i64.wrap (first_4 + child_16))).bind fun k34 =>
  ((atO z33 k34 fun _ => some ((z33).set k34 y30))).bind fun z36 =>
  some (.inl (child_16, z36, ()))))))) n_ (lo_2, data_1, ())).bind fun q => match q with
  | .inl (data_37, _) => (
  some (data_37, ()))
  | .inr r => some r
set_option maxHeartbeats 4000000 in
theorem le_slices_siftDownOrdered_int (n_ : Nat) (a : ((List Int) × Int × Int × Int × Unit)) : Le (e_slices_siftDownOrdered_int n_ a) (d_slices_siftDownOrdered_int a) := by
  unfold e_slices_siftDownOrdered_int d_slices_siftDownOrdered_int
  repeat' (first | with_reducible exact Le.refl _ | with_reducible exact le_cmp_Less_int _ _ | (with_reducible refine Le.bind ?_ (fun y => ?_)) | (with_reducible refine Le.bif ?_ ?_) | (with_reducible refine Le.loop (fun s => ?_) _ _) | (with_reducible refine Le.atO (fun e => ?_)) | split)
noncomputable def e_slices_heapSortOrdered_int (n_ : Nat) : ((List Int) × Int × Int × Unit) → Option ((List Int) × Unit) := fun (data_1, a_2, b_3, _) =>
  (quoO IntKind.i64 (IntKind.i64.wrap ((IntKind.i64.wrap (b_3 - a_2)) - ((1) : Int))) ((2) : Int)).bind fun y4 =>
  (loopN (σ := (Int × (List Int) × Unit)) (ρ := ((List Int) × Unit)) (fun (i_5, data_6, _) =>
  (bif (decide (i_5 ≥ ((0) : Int))) then (
  (e_slices_siftDownOrdered_int n_ (data_6, i_5, (IntKind.i64.wrap (b_3 - a_2)), a_2, ())).bind fun (m7, _) =>
  some (.inl ((IntKind.i64.wrap (i_5 - ((1) : Int))), m7, ()))) else (
  some (.inr (data_6, ()))))) n_ (y4, data_1, ())).bind fun (data_8, _) =>
  (loopN (σ := (Int × (List Int) × Unit)) (ρ := ((List Int) × Unit)) (fun (i_9, data_10, _) =>
  (bif (decide (i_9 ≥ ((0) : Int))) then (
  (idxN (data_10).length (IntKind.i64.wrap (a_2 + i_9))).bind fun k11 =>
  ((atO data_10 k11 fun e12 => some e12)).bind fun y13 =>
  (idxN (data_10).length a_2).bind fun k14 =>
  ((atO data_10 k14 fun e15 => some e15)).bind fun y16 =>
  (idxN (data_10).length a_2).bind fun k17 =>
  ((atO data_10 k17 fun _ => some ((data_10).set k17 y13))).bind fun z19 =>
  (idxN (z19).length (IntKind.i64.wrap (a_2 + i_9))).bind fun k20 =>
  ((atO z19 k20 fun _ => some ((z19).set k20 y16))).bind fun z22 =>
  (e_slices_siftDownOrdered_int n_ (z22, ((0) : Int), i_9, a_2, ())).bind fun (m23, _) =>
  some (.inl ((IntKind.i64.wrap (i_9 - ((1) : Int))), m23, ()))) else (
  some (.inr (data_10, ()))))) n_ ((IntKind.i64.wrap ((IntKind.i64.wrap (b_3 - a_2)) - ((1) : Int))), data_8, ())).bind fun (data_24, _) =>
  some (data_24, ())
set_option maxHeartbeats 4000000 in
theorem le_slices_heapSortOrdered_int (n_ : Nat) (a : ((List Int) × Int × Int × Unit)) : Le (e_slices_heapSortOrdered_int n_ a) (d_slices_heapSortOrdered_int a) := by
  unfold e_slices_heapSortOrdered_int d_slices_heapSortOrdered_int
  repeat' (first | with_reducible exact Le.refl _ | with_reducible exact le_slices_siftDownOrdered_int _ _ | (with_reducible refine Le.bind ?_ (fun y => ?_)) | (with_reducible refine Le.bif ?_ ?_) | (with_reducible refine Le.loop (fun s => ?_) _ _) | (with_reducible refine Le.atO (fun e => ?_)) | split)
noncomputable def e_slices_nextPowerOfTwo (n_ : Nat) : (Int × Unit) → Option (Int × Unit) := fun (length_1, _) =>
  (e_math_bits_Len n_ ((IntKind.u64.wrap length_1), ())).bind fun (r2, _) =>
  (shlO IntKind.u64 ((1) : Int) r2).bind fun y3 =>
  some (y3, ())
set_option maxHeartbeats 4000000 in
theorem le_slices_nextPowerOfTwo (n_ : Nat) (a : (Int × Unit)) : Le (e_slices_nextPowerOfTwo n_ a) (d_slices_nextPowerOfTwo a) := by
  unfold e_slices_nextPowerOfTwo d_slices_nextPowerOfTwo
  repeat' (first | with_reducible exact Le.refl _ | with_reducible exact le_math_bits_Len _ _ | (with_reducible refine Le.bind ?_ (fun y => ?_)) | (with_reducible refine Le.bif ?_ ?_) | (with_reducible refine Le.loop (fun s => ?_) _ _) | (with_reducible refine Le.atO (fun e => ?_)) | split)
noncomputable def e_slices_xorshift_Next (n_ : Nat) : (Int × Unit) → Option (Int × Int × Unit) := fun (r_1, _) =>
  (shlO IntKind.u64 r_1 ((13) : Int)).bind fun y2 =>
  (shrO IntKind.u64 (xorI IntKind.u64 r_1 y2) ((7) : Int)).bind fun y3 =>
  (shlO IntKind.u64 (xorI IntKind.u64 (xorI IntKind.u64 r_1 y2) y3) ((17) : Int)).bind fun y4 =>
  some ((xorI IntKind.u64 (xorI IntKind.u64 (xorI IntKind.u64 r_1 y2) y3) y4), (xorI IntKind.u64 (xorI IntKind.u64 (xorI IntKind.u64 r_1 y2) y3) y4), ())
set_option maxHeartbeats 4000000 in
theorem le_slices_xorshift_Next (n_ : Nat) (a : (Int × Unit)) : Le (e_slices_xorshift_Next n_ a) (d_slices_xorshift_Next a) := by
  unfold e_slices_xorshift_Next d_slices_xorshift_Next
  repeat' (first | with_reducible exact Le.refl _  | (with_reducible refine Le.bind ?_ (fun y => ?_)) | (with_reducible refine Le.bif ?_ ?_) | (with_reducible refine Le.loop (fun s => ?_) _ _) | (with_reducible refine Le.atO (fun e => ?_)) | split)
noncomputable def e_slices_breakPatternsOrdered_int (n_ : Nat) : ((List Int) × Int × Int × Unit) → Option ((List Int) × Unit) := fun (data_1, a_2, b_3, _) =>
  (bif (decide ((IntKind.i64.wrap (b_3 - a_2)) ≥ ((8) : Int))) then (
  (e_slices_nextPowerOfTwo n_ ((IntKind.i64.wrap (b_3 - a_2)), ())).bind fun (r4, _) =>
  (quoO IntKind.i64 (IntKind.i64.wrap (b_3 - a_2)) ((4) : Int)).bind fun y5 =>
  (loopN (σ := (Int × (List Int) × Int × Unit)) (ρ := ((List Int) × Unit)) (fun (idx_6, data_7, random_8, _) =>
  (quoO IntKind.i64 (IntKind.i64.wrap (b_3 - a_2)) ((4) : Int)).bind fun y9 =>
  (bif (decide (idx_6 ≤ (IntKind.i64.wrap ((IntKind.i64.wrap (a_2 + (IntKind.i64.wrap (y9 * ((2) : Int))))) + ((1) : Int))))) then (
  Option.bind (α := ((List Int) × Int × Unit)) (
  (e_slices_xorshift_Next n_ (random_8, ())).bind fun (m10, r11, _) =>
  Option.bind (α := (Int × (List Int) × Int × Unit)) (
  (bif (decide ((IntKind.i64.wrap (andI IntKind.u64 r11 (IntKind.u64.wrap (r4 - ((1) : Int))))) ≥ (IntKind.i64.wrap (b_3 - a_2)))) then (
  some ((IntKind.i64.wrap ((IntKind.i64.wrap (andI IntKind.u64 r11 (IntKind.u64.wrap (r4 - ((1) : Int))))) - (IntKind.i64.wrap (b_3 - a_2)))), data_7, m10, ())) else (
  some ((IntKind.i64.wrap (andI IntKind.u64 r11 (IntKind.u64.wrap (r4 - ((1) : Int))))), data_7, m10, ())))) fun (other_12, data_13, random_14, _) =>
  (idxN (data_13).length (IntKind.i64.wrap (a_2 + other_12))).bind fun k15 =>
  ((atO data_13 k15 fun e16 => some e16)).bind fun y17 =>
  (idxN (data_13).length idx_6).bind fun k18 =>
  ((atO data_13 k18 fun e19 => some e19)).bind fun y20 =>
  (idxN (data_13).length idx_6).bind fun k21 =>
  ((atO data_13 k21 fun _ => some ((data_13).set k21 y17))).bind fun z23 =>
  (idxN (z23).length (IntKind.i64.wrap (a_2 + other_12))).bind fun k24 =>
  ((atO z23 k24 fun _ => some ((z23).set k24 y20))).bind fun z26 =>
  some (z26, random_14, ())) fun (data_27, random_28, _) =>
  some (.inl ((IntKind.i64.wrap (idx_6 + ((1) : Int))), data_27, random_28, ()))) else (
  some (.inr (data_7, ()))))) n_ ((IntKind.i64.wrap ((IntKind.i64.wrap (a_2 + (IntKind.i64.wrap (y5 * ((2) : Int))))) - ((1) : Int))), data_1, (IntKind.u64.wrap (IntKind.i64.wrap (b_3 - a_2))), ())).bind fun (data_29, _) =>
  some (data_29, ())) else (
  some (data_1, ())))
set_option maxHeartbeats 4000000 in
theorem le_slices_breakPatternsOrdered_int (n_ : Nat) (a : ((List Int) × Int × Int × Unit)) : Le (e_slices_breakPatternsOrdered_int n_ a) (d_slices_breakPatternsOrdered_int a) := by
  unfold e_slices_breakPatternsOrdered_int d_slices_breakPatternsOrdered_int
  repeat' (first | with_reducible exact Le.refl _ | with_reducible exact le_slices_nextPowerOfTwo _ _ | with_reducible exact le_slices_xorshift_Next _ _ | (with_reducible refine Le.bind ?_ (fun y => ?_)) | (with_reducible refine Le.bif ?_ ?_) | (with_reducible refine Le.loop (fun s => ?_) _ _) | (with_reducible refine Le.atO (fun e => ?_)) | split)
noncomputable def e_slices_order2Ordered_int (n_ : Nat) : ((List Int) × Int × Int × Int × Unit) → Option (Int × Int × Int × Unit) := fun (data_1, a_2, b_3, swaps_4, _) =>
  (getI data_1 b_3).bind fun y5 =>
  (getI data_1 a_2).bind fun y6 =>
  (e_cmp_Less_int n_ (y5, y6, ())).bind fun (r7, _) =>
  (bif r7 then (
  some ((IntKind.i64.wrap (swaps_4 + ((1) : Int))), b_3, a_2, ())) else (
  some (swaps_4, a_2, b_3, ())))
set_option maxHeartbeats 4000000 in
theorem le_slices_order2Ordered_int (n_ : Nat) (a : ((List Int) × Int × Int × Int × Unit)) : Le (e_slices_order2Ordered_int n_ a) (d_slices_order2Ordered_int a) := by
  unfold e_slices_order2Ordered_int d_slices_order2Ordered_int
  repeat' (first | with_reducible exact Le.refl _ | with_reducible exact le_cmp_Less_int _ _ | (with_reducible refine Le.bind ?_ (fun y => ?_)) | (with_reducible refine Le.bif ?_ ?_) | (with_reducible refine Le.loop (fun s => ?_) _ _) | (with_reducible refine Le.atO (fun e => ?_)) | split)
noncomputable def e_slices_medianOrdered_int (n_ : Nat) : ((List Int) × Int × Int × Int × Int × Unit) → Option (Int × Int × Unit) := fun (data_1, a_2, b_3, c_4, swaps_5, _) =>
  (e_slices_order2Ordered_int n_ (data_1, a_2, b_3, swaps_5, ())).bind fun (m6, r7, r8, _) =>
  (e_slices_order2Ordered_int n_ (data_1, r8, c_4, m6, ())).bind fun (m9, r10, _, _) =>
  (e_slices_order2Ordered_int n_ (data_1, r7, r10, m9, ())).bind fun (m12, _, r14, _) =>
  some (m12, r14, ())
set_option maxHeartbeats 4000000 in
theorem le_slices_medianOrdered_int (n_ : Nat) (a : ((List Int) × Int × Int × Int × Int × Unit)) : Le (e_slices_medianOrdered_int n_ a) (d_slices_medianOrdered_int a) := by
  unfold e_slices_medianOrdered_int d_slices_medianOrdered_int
  repeat' (first | with_reducible exact Le.refl _ | with_reducible exact le_slices_order2Ordered_int _ _ | (with_reducible refine Le.bind ?_ (fun y => ?_)) | (with_reducible refine Le.bif ?_ ?_) | (with_reducible refine Le.loop (fun s => ?_) _ _) | (with_reducible refine Le.atO (fun e => ?_)) | split)
noncomputable def e_slices_medianAdjacentOrdered_int (n_ : Nat) : ((List Int) × Int × Int × Unit) → Option (Int × Int × Unit) := fun (data_1, a_2, swaps_3, _) =>
  (e_slices_medianOrdered_int n_ (data_1, (IntKind.i64.wrap (a_2 - ((1) : Int))), a_2, (IntKind.i64.wrap (a_2 + ((1) : Int))), swaps_3, ())).bind fun (m4, r5, _) =>
  some (m4, r5, ())
set_option maxHeartbeats 4000000 in
theorem le_slices_medianAdjacentOrdered_int (n_ : Nat) (a : ((List Int) × Int × Int × Unit)) : Le (e_slices_medianAdjacentOrdered_int n_ a) (d_slices_medianAdjacentOrdered_int a) := by
  unfold e_slices_medianAdjacentOrdered_int d_slices_medianAdjacentOrdered_int
  repeat' (first | with_reducible exact Le.refl _ | with_reducible exact le_slices_medianOrdered_int _ _ | (with_reducible refine Le.bind ?_ (fun y => ?_)) | (with_reducible refine Le.bif ?_ ?_) | (with_reducible refine Le.loop (fun s => ?_) _ _) | (with_reducible refine Le.atO (fun e => ?_)) | split)
noncomputable def e_slices_choosePivotOrdered_int (n_ : Nat) : ((List Int) × Int × Int × Unit) → Option (Int × Int × Unit) := fun (data_1, a_2, b_3, _) =>
  (quoO IntKind.i64 (IntKind.i64.wrap (b_3 - a_2)) ((4) : Int)).bind fun y4 =>
  (quoO IntKind.i64 (IntKind.i64.wrap (b_3 - a_2)) ((4) : Int)).bind fun y5 =>
  (quoO IntKind.i64 (IntKind.i64.wrap (b_3 - a_2)) ((4) : Int)).bind fun y6 =>
  Option.bind (α := (Int × Int × Unit)) (
  (bif (decide ((IntKind.i64.wrap (b_3 - a_2)) ≥ ((8) : Int))) then (
  Option.bind (α := (Int × Int × Int × Int × Unit)) (
  (bif (decide ((IntKind.i64.wrap (b_3 - a_2)) ≥ ((50) : Int))) then (
  (e_slices_medianAdjacentOrdered_int n_ (data_1, (IntKind.i64.wrap (a_2 + (IntKind.i64.wrap (y4 * ((1) : Int))))), (0 : Int), ())).bind fun (m7, r8, _) =>
  (e_slices_medianAdjacentOrdered_int n_ (data_1, (IntKind.i64.wrap (a_2 + (IntKind.i64.wrap (y5 * ((2) : Int))))), m7, ())).bind fun (m9, r10, _) =>
  (e_slices_medianAdjacentOrdered_int n_ (data_1, (IntKind.i64.wrap (a_2 + (IntKind.i64.wrap (y6 * ((3) : Int))))), m9, ())).bind fun (m11, r12, _) =>
  some (r8, r10, r12, m11, ())) else (
  some ((IntKind.i64.wrap (a_2 + (IntKind.i64.wrap (y4 * ((1) : Int))))), (IntKind.i64.wrap (a_2 + (IntKind.i64.wrap (y5 * ((2) : Int))))), (IntKind.i64.wrap (a_2 + (IntKind.i64.wrap (y6 * ((3) : Int))))), (0 : Int), ())))) fun (i_13, j_14, k_15, swaps_16, _) =>
  (e_slices_medianOrdered_int n_ (data_1, i_13, j_14, k_15, swaps_16, ())).bind fun (m17, r18, _) =>
  some (r18, m17, ())) else (
  some ((IntKind.i64.wrap (a_2 + (IntKind.i64.wrap (y5 * ((2) : Int))))), (0 : Int), ())))) fun (j_19, swaps_20, _) =>
  (bif (swaps_20 == ((0) : Int)) then (
  some (j_19, ((1) : Int), ())) else (
  (bif (swaps_20 == ((12) : Int)) then (
  some (j_19, ((2) : Int), ())) else (
  some (j_19, ((0) : Int), ())))))
set_option maxHeartbeats 4000000 in
theorem le_slices_choosePivotOrdered_int (n_ : Nat) (a : ((List Int) × Int × Int × Unit)) : Le (e_slices_choosePivotOrdered_int n_ a) (d_slices_choosePivotOrdered_int a) := by
  unfold e_slices_choosePivotOrdered_int d_slices_choosePivotOrdered_int
  repeat' (first | with_reducible exact Le.refl _ | with_reducible exact le_slices_medianAdjacentOrdered_int _ _ | with_reducible exact le_slices_medianOrdered_int _ _ | (with_reducible refine Le.bind ?_ (fun y => ?_)) | (with_reducible refine Le.bif ?_ ?_) | (with_reducible refine Le.loop (fun s => ?_) _ _) | (with_reducible refine Le.atO (fun e => ?_)) | split)
noncomputable def e_slices_reverseRangeOrdered_int (n_ : Nat) : ((List Int) × Int × Int × Unit) → Option ((List Int) × Unit) := fun (data_1, a_2, b_3, _) =>
  (loopN (σ := (Int × Int × (List Int) × Unit)) (ρ := ((List Int) × Unit)) (fun (i_4, j_5, data_6, _) =>
  (bif (decide (i_4 < j_5)) then (
  (idxN (data_6).length j_5).bind fun k7 =>
  ((atO data_6 k7 fun e8 => some e8)).bind fun y9 =>
  (idxN (data_6).length i_4).bind fun k10 =>
  ((atO data_6 k10 fun e11 => some e11)).bind fun y12 =>
  (idxN (data_6).length i_4).bind fun k13 =>
  ((atO data_6 k13 fun _ => some ((data_6).set k13 y9))).bind fun z15 =>
  (idxN (z15).length j_5).bind fun k16 =>
  ((atO z15 k16 fun _ => some ((z15).set k16 y12))).bind fun z18 =>
  some (.inl ((IntKind.i64.wrap (i_4 + ((1) : Int))), (IntKind.i64.wrap (j_5 - ((1) : Int))), z18, ()))) else (
  some (.inr (data_6, ()))))) n_ (a_2, (IntKind.i64.wrap (b_3 - ((1) : Int))), data_1, ())).bind fun (data_19, _) =>
  some (data_19, ())
set_option maxHeartbeats 4000000 in
theorem le_slices_reverseRangeOrdered_int (n_ : Nat) (a : ((List Int) × Int × Int × Unit)) : Le (e_slices_reverseRangeOrdered_int n_ a) (d_slices_reverseRangeOrdered_int a) := by
  unfold e_slices_reverseRangeOrdered_int d_slices_reverseRangeOrdered_int
  repeat' (first | with_reducible exact Le.refl _  | (with_reducible refine Le.bind ?_ (fun y => ?_)) | (with_reducible refine Le.bif ?_ ?_) | (with_reducible refine Le.loop (fun s => ?_) _ _) | (with_reducible refine Le.atO (fun e => ?_)) | split)
noncomputable def e_slices_partialInsertionSortOrdered_int (n_ : Nat) : ((List Int) × Int × Int × Unit) → Option ((List Int) × Bool × Unit) := fun (data_1, a_2, b_3, _) =>
  (loopN (σ := (Int × Int × (List Int) × Unit)) (ρ := (((List Int) × Unit) ⊕ ((List Int) × Bool × Unit))) (fun (i_4, j_5, data_6, _) =>
  (bif (decide (j_5 < ((5) : Int))) then (
  Option.bind (α := (Int × (List Int) × Unit) ⊕ ((Int × Int × (List Int) × Unit) ⊕ (((List Int) × Unit) ⊕ ((List Int) × Bool × Unit)))) (
  (loopN (σ := (Int × (List Int) × Unit)) (ρ := (Int × (List Int) × Unit)) (fun (i_7, data_8, _) =>
  Option.bind (α := ((List Int) × Unit) ⊕ ((Int × (List Int) × Unit) ⊕ (Int × (List Int) × Unit))) (
  (bif ((decide (i_7 < b_3)) == true) then ((idxN (data_8).length i_7).bind fun k9 =>
  ((atO data_8 k9 fun e10 => some e10)).bind fun y11 =>
  (idxN (data_8).length (IntKind.i64.wrap (i_7 - ((1) : Int)))).bind fun k12 =>
  ((atO data_8 k12 fun e13 => some e13)).bind fun y14 =>
  (e_cmp_Less_int n_ (y11, y14, ())).bind fun (r15, _) =>
  (bif (!r15) then (
  some (.inl (data_8, ()))) else (
  some (.inr (.inr (i_7, data_8, ())))))) else (some (.inr (.inr (i_7, data_8, ())))))) fun q => match q with
  | .inl (data_16, _) => (
  some (.inl ((IntKind.i64.wrap (i_7 + ((1) : Int))), data_16, ())))
  | .inr r => some r) n_ (i_4, data_6, ())).bind fun (i_17, data_18, _) =>
  (bif (i_17 == b_3) then (
  some (.inr (.inr (.inr (data_18, true, ()))))) else (
  (bif (decide ((IntKind.i64.wrap (b_3 - a_2)) < ((50) : Int))) then (
  some (.inr (.inr (.inr (data_18, false, ()))))) else (
  (idxN (data_18).length (IntKind.i64.wrap (i_17 - ((1) : Int)))).bind fun k19 =>
  ((atO data_18 k19 fun e20 => some e20)).bind fun y21 =>
  (idxN (data_18).length i_17).bind fun k22 =>
  ((atO data_18 k22 fun e23 => some e23)).bind fun y24 =>
  (idxN (data_18).length i_17).bind fun k25 =>
  ((atO data_18 k25 fun _ => some ((data_18).set k25 y21))).bind fun z27 =>
  (idxN (z27).length (IntKind.i64.wrap (i_17 - ((1) : Int)))).bind fun k28 =>
  ((atO z27 k28 fun _ => some ((z27).set k28 y24))).bind fun z30 =>
  Option.bind (α := ((List Int) × Unit)) (
  (bif (decide ((IntKind.i64.wrap (i_17 - a_2)) ≥ ((2) : Int))) then (
  (loopN (σ := (Int × (List Int) × Unit)) (ρ := ((List Int) × Unit)) (fun (j_31, data_32, _) =>
  (bif (decide (j_31 ≥ ((1) : Int))) then (
  (idxN (data_32).length j_31).bind fun k33 =>
  ((atO data_32 k33 fun e34 => some e34)).bind fun y35 =>
  (idxN (data_32).length (IntKind.i64.wrap (j_31 - ((1) : Int)))).bind fun k36 =>
  ((atO data_32 k36 fun e37 => some e37)).bind fun y38 =>
  (e_cmp_Less_int n_ (y35, y38, ())).bind fun (r39, _) =>
  (bif (!r39) then (
  some (.inr (data_32, ()))) else (
  (idxN (data_32).length (IntKind.i64.wrap (j_31 - ((1) : Int)))).bind fun k40 =>
  ((atO data_32 k40 fun e41 => some e41)).bind fun y42 =>
  (idxN (data_32).length j_31).bind fun k43 =>
  ((atO data_32 k43 fun e44 => some e44)).bind fun y45 =>
  (idxN (data_32).length j_31).bind fun k46 =>
  ((atO data_32 k46 fun _ => some ((data_32).set k46 y42))).bind fun z48 =>
  (idxN (z48).length (IntKind.i64.wrap (j_31 - ((1) : Int)))).bind fun k49 =>
  ((atO z48 k49 fun _ => some ((z48).set k49 y45))).bind fun z51 =>
  some (.inl ((IntKind.i64.wrap (j_31 - ((1) : Int))), z51, ()))))) else (
  some (.inr (data_32, ()))))) n_ ((IntKind.i64.wrap (i_17 - ((1) : Int))), z30, ())).bind fun (data_52, _) =>
  some (data_52, ())) else (
  some (z30, ())))) fun (data_53, _) =>
  (bif (decide ((IntKind.i64.wrap (b_3 - i_17)) ≥ ((2) : Int))) then (
  (loopN (σ := (Int × (List Int) × Unit)) (ρ := ((List Int) × Unit)) (fun (j_54, data_55, _) =>
  (bif (decide (j_54 < b_3)) then (
  (idxN (data_55).length j_54).bind fun k56 =>
  ((atO data_55 k56 fun e57 => some e57)).bind fun y58 =>
  (idxN (data_55).length (IntKind.i64.wrap (j_54 - ((1) : Int)))).bind fun k59 =>
  ((atO data_55 k59 fun e60 => some e60)).bind fun y61 =>
  (e_cmp_Less_int n_ (y58, y61, ())).bind fun (r62, _) =>
  (bif (!r62) then (
  some (.inr (data_55, ()))) else (
  (idxN (data_55).length (IntKind.i64.wrap (j_54 - ((1) : Int)))).bind fun k63 =>
  ((atO data_55 k63 fun e64 => some e64)).bind fun y65 =>
  (idxN (data_55).length j_54).bind fun k66 =>
  ((atO data_55 k66 fun e67 => some e67)).bind fun y68 =>
  (idxN (data_55).length j_54).bind fun k69 =>
  ((atO data_55 k69 fun _ => some ((data_55).set k69 y65))).bind fun z71 =>
  (idxN (z71).length (IntKind.i64.wrap (j_54 - ((1) : Int)))).bind fun k72 =>
  ((atO z71 k72 fun _ => some ((z71).set k72 y68))).bind fun z74 =>
  some (.inl ((IntKind.i64.wrap (j_54 + ((1) : Int))), z74, ()))))) else (
  some (.inr (data_55, ()))))) n_ ((IntKind.i64.wrap (i_17 + ((1) : Int))), data_53, ())).bind fun (data_75, _) =>
  some (.inl (i_17, data_75, ()))) else (
  some (.inl (i_17, data_53, ()))))))))) fun q => match q with
  | .inl (i_76, data_77, _) => (
  some (.inl (i_76, (IntKind.i64.wrap (j_5 + ((1) : Int))), data_77, ())))
  | .inr r => some r) else (
  some (.inr (.inl (data_6, ())))))) n_ ((IntKind.i64.wrap (a_2 + ((1) : Int))), ((0) : Int), data_1, ())).bind fun q => match q with
  | .inl (data_78, _) => (
  some (data_78, false, ()))
  | .inr r => some r
set_option maxHeartbeats 4000000 in
theorem le_slices_partialInsertionSortOrdered_int (n_ : Nat) (a : ((List Int) × Int × Int × Unit)) : Le (e_slices_partialInsertionSortOrdered_int n_ a) (d_slices_partialInsertionSortOrdered_int a) := by
  unfold e_slices_partialInsertionSortOrdered_int d_slices_partialInsertionSortOrdered_int
  repeat' (first | with_reducible exact Le.refl _ | with_reducible exact le_cmp_Less_int _ _ | (with_reducible refine Le.bind ?_ (fun y => ?_)) | (with_reducible refine Le.bif ?_ ?_) | (with_reducible refine Le.loop (fun s => ?_) _ _) | (with_reducible refine Le.atO (fun e => ?_)) | split)
noncomputable def e_slices_partitionEqualOrdered_int (n_ : Nat) : ((List Int) × Int × Int × Int × Unit) → Option ((List Int) × Int × Unit) := fun (data_1, a_2, b_3, pivot_4, _) =>
  (idxN (data_1).length pivot_4).bind fun k5 =>
  ((atO data_1 k5 fun e6 => some e6)).bind fun y7 =>
  (idxN (data_1).length a_2).bind fun k8 =>
  ((atO data_1 k8 fun e9 => some e9)).bind fun y10 =>
  (idxN (data_1).length a_2).bind fun k11 =>
  ((atO data_1 k11 fun _ => some ((data_1).set k11 y7))).bind fun z13 =>
  (idxN (z13).length pivot_4).bind fun k14 =>
  ((atO z13 k14 fun _ => some ((z13).set k14 y10))).bind fun z16 =>
  (loopN (σ := (Int × Int × (List Int) × Unit)) (ρ := (Int × (List Int) × Unit)) (fun (i_17, j_18, data_19, _) =>
  (loopN (σ := (Int × (List Int) × Unit)) (ρ := (Int × (List Int) × Unit)) (fun (i_20, data_21, _) =>
  Option.bind (α := ((List Int) × Unit) ⊕ ((Int × (List Int) × Unit) ⊕ (Int × (List Int) × Unit))) (
  (bif ((decide (i_20 ≤ j_18)) == true) then ((idxN (data_21).length a_2).bind fun k22 =>
  ((atO data_21 k22 fun e23 => some e23)).bind fun y24 =>
  (idxN (data_21).length i_20).bind fun k25 =>
  ((atO data_21 k25 fun e26 => some e26)).bind fun y27 =>
  (e_cmp_Less_int n_ (y24, y27, ())).bind fun (r28, _) =>
  (bif (!r28) then (
  some (.inl (data_21, ()))) else (
  some (.inr (.inr (i_20, data_21, ())))))) else (some (.inr (.inr (i_20, data_21, ())))))) fun q => match q with
  | .inl (data_29, _) => (
  some (.inl ((IntKind.i64.wrap (i_20 + ((1) : Int))), data_29, ())))
  | .inr r => some r) n_ (i_17, data_19, ())).bind fun (i_30, data_31, _) =>
  (loopN (σ := (Int × (List Int) × Unit)) (ρ := (Int × (List Int) × Unit)) (fun (j_32, data_33, _) =>
  Option.bind (α := ((List Int) × Unit) ⊕ ((Int × (List Int) × Unit) ⊕ (Int × (List Int) × Unit))) (
  (bif ((decide (i_30 ≤ j_32)) == true) then ((idxN (data_33).length a_2).bind fun k34 =>
  ((atO data_33 k34 fun e35 => some e35)).bind fun y36 =>
  (idxN (data_33).length j_32).bind fun k37 =>
  ((atO data_33 k37 fun e38 => some e38)).bind fun y39 =>
  (e_cmp_Less_int n_ (y36, y39, ())).bind fun (r40, _) =>
  (bif r40 then (
  some (.inl (data_33, ()))) else (
  some (.inr (.inr (j_32, data_33, ())))))) else (some (.inr (.inr (j_32, data_33, ())))))) fun q => match q with
  | .inl (data_41, _) => (
  some (.inl ((IntKind.i64.wrap (j_32 - ((1) : Int))), data_41, ())))
  | .inr r => some r) n_ (j_18, data_31, ())).bind fun (j_42, data_43, _) =>
  (bif (decide (i_30 > j_42)) then (
  some (.inr (i_30, data_43, ()))) else (
  (idxN (data_43).length j_42).bind fun k44 =>
  ((atO data_43 k44 fun e45 => some e45)).bind fun y46 =>
  (idxN (data_43).length i_30).bind fun k47 =>
  ((atO data_43 k47 fun e48 => some e48)).bind fun y49 =>
  (idxN (data_43).length i_30).bind fun k50 =>
  ((atO data_43 k50 fun _ => some ((data_43).set k50 y46))).bind fun z52 =>
  (idxN (z52).length j_42).bind fun k53 =>
  ((atO z52 k53 fun _ => some ((z52).set k53 y49))).bind fun z55 =>
  some (.inl ((IntKind.i64.wrap (i_30 + ((1) : Int))), (IntKind.i64.wrap (j_42 - ((1) : Int))), z55, ()))))) n_ ((IntKind.i64.wrap (a_2 + ((1) : Int))), (IntKind.i64.wrap (b_3 - ((1) : Int))), z16, ())).bind fun (i_56, data_57, _) =>
  some (data_57, i_56, ())
set_option maxHeartbeats 4000000 in
theorem le_slices_partitionEqualOrdered_int (n_ : Nat) (a : ((List Int) × Int × Int × Int × Unit)) : Le (e_slices_partitionEqualOrdered_int n_ a) (d_slices_partitionEqualOrdered_int a) := by
  unfold e_slices_partitionEqualOrdered_int d_slices_partitionEqualOrdered_int
  repeat' (first | with_reducible exact Le.refl _ | with_reducible exact le_cmp_Less_int _ _ | (with_reducible refine Le.bind ?_ (fun y => ?_)) | (with_reducible refine Le.bif ?_ ?_) | (with_reducible refine Le.loop (fun s => ?_) _ _) | (with_reducible refine Le.atO (fun e => ?_)) | split)
noncomputable def e_slices_partitionOrdered_int (n_ : Nat) : ((List Int) × Int × Int × Int × Unit) → Option ((List Int) × Int × Bool × Unit) := fun (data_1, a_2, b_3, pivot_4, _) =>
  (idxN (data_1).length pivot_4).bind fun k5 =>
  ((atO data_1 k5 fun e6 => some e6)).bind fun y7 =>
  (idxN (data_1).length a_2).bind fun k8 =>
  ((atO data_1 k8 fun e9 => some e9)).bind fun y10 =>
  (idxN (data_1).length a_2).bind fun k11 =>
  ((atO data_1 k11 fun _ => some ((data_1).set k11 y7))).bind fun z13 =>
  (idxN (z13).length pivot_4).bind fun k14 =>
  ((atO z13 k14 fun _ => some ((z13).set k14 y10))).bind fun z16 =>
  (loopN (σ := (Int × (List Int) × Unit)) (ρ := (Int × (List Int) × Unit)) (fun (i_17, data_18, _) =>
  Option.bind (α := ((List Int) × Unit) ⊕ ((Int × (List Int) × Unit) ⊕ (Int × (List Int) × Unit))) (
  (bif ((decide (i_17 ≤ (IntKind.i64.wrap (b_3 - ((1) : Int))))) == true) then ((idxN (data_18).length i_17).bind fun k19 =>
  ((atO data_18 k19 fun e20 => some e20)).bind fun y21 =>
  (idxN (data_18).length a_2).bind fun k22 =>
  ((atO data_18 k22 fun e23 => some e23)).bind fun y24 =>
  (e_cmp_Less_int n_ (y21, y24, ())).bind fun (r25, _) =>
  (bif r25 then (
  some (.inl (data_18, ()))) else (
  some (.inr (.inr (i_17, data_18, ())))))) else (some (.inr (.inr (i_17, data_18, ())))))) fun q => match q with
  | .inl (data_26, _) => (
  some (.inl ((IntKind.i64.wrap (i_17 + ((1) : Int))), data_26, ())))
  | .inr r => some r) n_ ((IntKind.i64.wrap (a_2 + ((1) : Int))), z16, ())).bind fun (i_27, data_28, _) =>
  (loopN (σ := (Int × (List Int) × Unit)) (ρ := (Int × (List Int) × Unit)) (fun (j_29, data_30, _) =>
  Option.bind (α := ((List Int) × Unit) ⊕ ((Int × (List Int) × Unit) ⊕ (Int × (List Int) × Unit))) (
  (bif ((decide (i_27 ≤ j_29)) == true) then ((idxN (data_30).length j_29).bind fun k31 =>
  ((atO data_30 k31 fun e32 => some e32)).bind fun y33 =>
  (idxN (data_30).length a_2).bind fun k34 =>
  ((atO data_30 k34 fun e35 => some e35)).bind fun y36 =>
  (e_cmp_Less_int n_ (y33, y36, ())).bind fun (r37, _) =>
  (bif (!r37) then (
  some (.inl (data_30, ()))) else (
  some (.inr (.inr (j_29, data_30, ())))))) else (some (.inr (.inr (j_29, data_30, ())))))) fun q => match q with
  | .inl (data_38, _) => (
  some (.inl ((IntKind.i64.wrap (j_29 - ((1) : Int))), data_38, ())))
  | .inr r => some r) n_ ((IntKind.i64.wrap (b_3 - ((1) : Int))), data_28, ())).bind fun (j_39, data_40, _) =>
  (bif (decide (i_27 > j_39)) then (
  (idxN (data_40).length a_2).bind fun k41 =>
  ((atO data_40 k41 fun e42 => some e42)).bind fun y43 =>
  (idxN (data_40).length j_39).bind fun k44 =>
  ((atO data_40 k44 fun e45 => some e45)).bind fun y46 =>
  (idxN (data_40).length j_39).bind fun k47 =>
  ((atO data_40 k47 fun _ => some ((data_40).set k47 y43))).bind fun z49 =>
  (idxN (z49).length a_2).bind fun k50 =>
  ((atO z49 k50 fun _ => some ((z49).set k50 y46))).bind fun z52 =>
  some (z52, j_39, true, ())) else (
  (idxN (data_40).length j_39).bind fun k53 =>
  ((atO data_40 k53 fun e54 => some e54)).bind fun y55 =>
  (idxN (data_40).length i_27).bind fun k56 =>
  ((atO data_40 k56 fun e57 => some e57)).bind fun y58 =>
  (idxN (data_40).length i_27).bind fun k59 =>
  ((atO data_40 k59 fun _ => some ((data_40).set k59 y55))).bind fun z61 =>
  (idxN (z61).length j_39).bind fun k62 =>
  ((atO z61 k62 fun _ => some ((z61).set k62 y58))).bind fun z64 =>
  (loopN (σ := (Int × Int × (List Int) × Unit)) (ρ := (Int × (List Int) × Unit)) (fun (i_65, j_66, data_67, _) =>
  (loopN (σ := (Int × (List Int) × Unit)) (ρ := (Int × (List Int) × Unit)) (fun (i_68, data_69, _) =>
  Option.bind (α := ((List Int) × Unit) ⊕ ((Int × (List Int) × Unit) ⊕ (Int × (List Int) × Unit))) (
  (bif ((decide (i_68 ≤ j_66)) == true) then ((idxN (data_69).length i_68).bind fun k70 =>
  ((atO data_69 k70 fun e71 => some e71)).bind fun y72 =>
  (idxN (data_69).length a_2).bind fun k73 =>
  ((atO data_69 k73 fun e74 => some e74)).bind fun y75 =>
  (e_cmp_Less_int n_ (y72, y75, ())).bind fun (r76, _) =>
  (bif r76 then (
  some (.inl (data_69, ()))) else (
  some (.inr (.inr (i_68, data_69, ())))))) else (some (.inr (.inr (i_68, data_69, ())))))) fun q => match q with
  | .inl (data_77, _) => (
  some (.inl ((IntKind.i64.wrap (i_68 + ((1) : Int))), data_77, ())))
  | .inr r => some r) n_ (i_65, data_67, ())).bind fun (i_78, data_79, _) =>
  (loopN (σ := (Int × (List Int) × Unit)) (ρ := (Int × (List Int) × Unit)) (fun (j_80, data_81, _) =>
  Option.bind (α := ((List Int) × Unit) ⊕ ((Int × (List Int) × Unit) ⊕ (Int × (List Int) × Unit))) (
  (bif ((decide (i_78 ≤ j_80)) == true) then ((idxN (data_81).length j_80).bind fun k82 =>
  ((atO data_81 k82 fun e83 => some e83)).bind fun y84 =>
  (idxN (data_81).length a_2).bind fun k85 =>
  ((atO data_81 k85 fun e86 => some e86)).bind fun y87 =>
  (e_cmp_Less_int n_ (y84, y87, ())).bind fun (r88, _) =>
  (bif (!r88) then (
  some (.inl (data_81, ()))) else (
  some (.inr (.inr (j_80, data_81, ())))))) else (some (.inr (.inr (j_80, data_81, ())))))) fun q => match q with
  | .inl (data_89, _) => (
  some (.inl ((IntKind.i64.wrap (j_80 - ((1) : Int))), data_89, ())))
  | .inr r => some r) n_ (j_66, data_79, ())).bind fun (j_90, data_91, _) =>
  (bif (decide (i_78 > j_90)) then (
  some (.inr (j_90, data_91, ()))) else (
  (idxN (data_91).length j_90).bind fun k92 =>
  ((atO data_91 k92 fun e93 => some e93)).bind fun y94 =>
  (idxN (data_91).length i_78).bind fun k95 =>
  ((atO data_91 k95 fun e96 => some e96)).bind fun y97 =>
  (idxN (data_91).length i_78).bind fun k98 =>
  ((atO data_91 k98 fun _ => some ((data_91).set k98 y94))).bind fun z100 =>
  (idxN (z100).length j_90).bind fun k101 =>
  ((atO z100 k101 fun _ => some ((z100).set k101 y97))).bind fun z103 =>
  some (.inl ((IntKind.i64.wrap (i_78 + ((1) : Int))), (IntKind.i64.wrap (j_90 - ((1) : Int))), z103, ()))))) n_ ((IntKind.i64.wrap (i_27 + ((1) : Int))), (IntKind.i64.wrap (j_39 - ((1) : Int))), z64, ())).bind fun (j_104, data_105, _) =>
  (idxN (data_105).length a_2).bind fun k106 =>
  ((atO data_105 k106 fun e107 => some e107)).bind fun y108 =>
  (idxN (data_105).length j_104).bind fun k109 =>
  ((atO data_105 k109 fun e110 => some e110)).bind fun y111 =>
  (idxN (data_105).length j_104).bind fun k112 =>
  ((atO data_105 k112 fun _ => some ((data_105).set k112 y108))).bind fun z114 =>
  (idxN (z114).length a_2).bind fun k115 =>
  ((atO z114 k115 fun _ => some ((z114).set k115 y111))).bind fun z117 =>
  some (z117, j_104, false, ())))
set_option maxHeartbeats 4000000 in
theorem le_slices_partitionOrdered_int (n_ : Nat) (a : ((List Int) × Int × Int × Int × Unit)) : Le (e_slices_partitionOrdered_int n_ a) (d_slices_partitionOrdered_int a) := by
  unfold e_slices_partitionOrdered_int d_slices_partitionOrdered_int
  repeat' (first | with_reducible exact Le.refl _ | with_reducible exact le_cmp_Less_int _ _ | (with_reducible refine Le.bind ?_ (fun y => ?_)) | (with_reducible refine Le.bif ?_ ?_) | (with_reducible refine Le.loop (fun s => ?_) _ _) | (with_reducible refine Le.atO (fun e => ?_)) | split)
noncomputable def e_slices_pdqsortOrdered_intq_s (n_ : Nat) (f_ : ((List Int) × Int × Int × Int × Unit) → Option ((List Int) × Unit)) : ((List Int) × Int × Int × Int × Unit) → Option ((List Int) × Unit) := fun (data_1, a_2, b_3, limit_4, _) =>
  (loopN (σ := (Int × Int × Int × Bool × Bool × (List Int) × Unit)) (ρ := ((List Int) × Unit)) (fun (a_5, b_6, limit_7, wasBalanced_8, wasPartitioned_9, data_10, _) =>
  (bif (decide ((IntKind.i64.wrap (b_6 - a_5)) ≤ ((12) : Int))) then (
  (e_slices_insertionSortOrdered_int n_ (data_10, a_5, b_6, ())).bind fun (m11, _) =>
  some (.inr (m11, ()))) else (
  (bif (limit_7 == ((0) : Int)) then (
  (e_slices_heapSortOrdered_int n_ (data_10, a_5, b_6, ())).bind fun (m12, _) =>
  some (.inr (m12, ()))) else (
  Option.bind (α := (Int × (List Int) × Unit)) (
  (bif (!wasBalanced_8) then (
  (e_slices_breakPatternsOrdered_int n_ (data_10, a_5, b_6, ())).bind fun (m13, _) =>
  some ((IntKind.i64.wrap (limit_7 - ((1) : Int))), m13, ())) else (
  some (limit_7, data_10, ())))) fun (limit_14, data_15, _) =>
  (e_slices_choosePivotOrdered_int n_ (data_15, a_5, b_6, ())).bind fun (r16, r17, _) =>
  Option.bind (α := (Int × Int × (List Int) × Unit)) (
  (bif (r17 == ((2) : Int)) then (
  (e_slices_reverseRangeOrdered_int n_ (data_15, a_5, b_6, ())).bind fun (m18, _) =>
  some ((IntKind.i64.wrap ((IntKind.i64.wrap (b_6 - ((1) : Int))) - (IntKind.i64.wrap (r16 - a_5)))), ((1) : Int), m18, ())) else (
  some (r16, r17, data_15, ())))) fun (pivot_19, hint_20, data_21, _) =>
  Option.bind (α := ((List Int) × Unit) ⊕ ((Int × Int × Int × Bool × Bool × (List Int) × Unit) ⊕ ((List Int) × Unit))) (
  Option.bind (α := (Bool × (List Int) × Unit)) (
  (bif (wasBalanced_8 == true) then ((bif (wasPartitioned_9 == true) then (some ((hint_20 == ((1) : Int)), data_21, ())) else (some (false, data_21, ())))) else (some (false, data_21, ())))) fun (s_22, data_23, _) =>
  (bif s_22 then (
  (e_slices_partialInsertionSortOrdered_int n_ (data_23, a_5, b_6, ())).bind fun (m24, r25, _) =>
  (bif r25 then (
  some (.inr (.inr (m24, ())))) else (
  some (.inl (m24, ()))))) else (
  some (.inl (data_23, ()))))) fun q => match q with
  | .inl (data_26, _) => (
  Option.bind (α := (Int × (List Int) × Unit) ⊕ ((Int × Int × Int × Bool × Bool × (List Int) × Unit) ⊕ ((List Int) × Unit))) (
  Option.bind (α := (Bool × (List Int) × Unit)) (
  (bif ((decide (a_5 > ((0) : Int))) == true) then ((idxN (data_26).length (IntKind.i64.wrap (a_5 - ((1) : Int)))).bind fun k27 =>
  ((atO data_26 k27 fun e28 => some e28)).bind fun y29 =>
  (idxN (data_26).length pivot_19).bind fun k30 =>
  ((atO data_26 k30 fun e31 => some e31)).bind fun y32 =>
  (e_cmp_Less_int n_ (y29, y32, ())).bind fun (r33, _) =>
  some ((!r33), data_26, ())) else (some (false, data_26, ())))) fun (s_34, data_35, _) =>
  (bif s_34 then (
  (e_slices_partitionEqualOrdered_int n_ (data_35, a_5, b_6, pivot_19, ())).bind fun (m36, r37, _) =>
  some (.inr (.inl (r37, b_6, limit_14, wasBalanced_8, wasPartitioned_9, m36, ())))) else (
  some (.inl (a_5, data_35, ()))))) fun q => match q with
  | .inl (a_38, data_39, _) => (
  (e_slices_partitionOrdered_int n_ (data_39, a_38, b_6, pivot_19, ())).bind fun (m40, r41, r42, _) =>
  (quoO IntKind.i64 (IntKind.i64.wrap (b_6 - a_5)) ((8) : Int)).bind fun y43 =>
  (bif (decide ((IntKind.i64.wrap (r41 - a_38)) < (IntKind.i64.wrap (b_6 - r41)))) then (
  (f_ (m40, a_38, r41, limit_14, ())).bind fun (m44, _) =>
  some (.inl ((IntKind.i64.wrap (r41 + ((1) : Int))), b_6, limit_14, (decide ((IntKind.i64.wrap (r41 - a_38)) ≥ y43)), r42, m44, ()))) else (
  (f_ (m40, (IntKind.i64.wrap (r41 + ((1) : Int))), b_6, limit_14, ())).bind fun (m45, _) =>
  some (.inl (a_38, r41, limit_14, (decide ((IntKind.i64.wrap (b_6 - r41)) ≥ y43)), r42, m45, ())))))
  | .inr r => some r)
  | .inr r => some r))))) n_ (a_2, b_3, limit_4, true, true, data_1, ())).bind some
set_option maxHeartbeats 4000000 in
theorem le_slices_pdqsortOrdered_intq_s (n_ : Nat) (f_ fb_ : ((List Int) × Int × Int × Int × Unit) → Option ((List Int) × Unit)) (h_ : ∀ a, Le (f_ a) (fb_ a)) (a : ((List Int) × Int × Int × Int × Unit)) : Le (e_slices_pdqsortOrdered_intq_s n_ f_ a) (r_slices_pdqsortOrdered_intq_s fb_ a) := by
  unfold e_slices_pdqsortOrdered_intq_s r_slices_pdqsortOrdered_intq_s
  repeat' (first | with_reducible exact Le.refl _ | with_reducible exact le_slices_insertionSortOrdered_int _ _ | with_reducible exact le_slices_heapSortOrdered_int _ _ | with_reducible exact le_slices_breakPatternsOrdered_int _ _ | with_reducible exact le_slices_choosePivotOrdered_int _ _ | with_reducible exact le_slices_reverseRangeOrdered_int _ _ | with_reducible exact le_slices_partialInsertionSortOrdered_int _ _ | with_reducible exact le_cmp_Less_int _ _ | with_reducible exact le_slices_partitionEqualOrdered_int _ _ | with_reducible exact le_slices_partitionOrdered_int _ _ | with_reducible exact h_ _ | (with_reducible refine Le.bind ?_ (fun y => ?_)) | (with_reducible refine Le.bif ?_ ?_) | (with_reducible refine Le.loop (fun s => ?_) _ _) | (with_reducible refine Le.atO (fun e => ?_)) | split)
noncomputable def e_slices_pdqsortOrdered_int (n_ : Nat) : ((List Int) × Int × Int × Int × Unit) → Option ((List Int) × Unit) := deep (e_slices_pdqsortOrdered_intq_s n_) n_
theorem le_slices_pdqsortOrdered_int (n_ : Nat) (a : ((List Int) × Int × Int × Int × Unit)) : Le (e_slices_pdqsortOrdered_int n_ a) (d_slices_pdqsortOrdered_int a) := Le.deep (le_slices_pdqsortOrdered_intq_s n_) r_slices_pdqsortOrdered_intq_mono n_ a
noncomputable def e_slices_Sort_int_int (n_ : Nat) : ((List Int) × Unit) → Option ((List Int) × Unit) := fun (x_1, _) =>
  (e_math_bits_Len n_ ((IntKind.u64.wrap (((x_1).length : Nat) : Int)), ())).bind fun (r2, _) =>
  (e_slices_pdqsortOrdered_int n_ (x_1, ((0) : Int), (((x_1).length : Nat) : Int), r2, ())).bind fun (m3, _) =>
  some (m3, ())
set_option maxHeartbeats 4000000 in
theorem le_slices_Sort_int_int (n_ : Nat) (a : ((List Int) × Unit)) : Le (e_slices_Sort_int_int n_ a) (d_slices_Sort_int_int a) := by
  unfold e_slices_Sort_int_int d_slices_Sort_int_int
  repeat' (first | with_reducible exact Le.refl _ | with_reducible exact le_slices_pdqsortOrdered_int _ _ | with_reducible exact le_math_bits_Len _ _ | (with_reducible refine Le.bind ?_ (fun y => ?_)) | (with_reducible refine Le.bif ?_ ?_) | (with_reducible refine Le.loop (fun s => ?_) _ _) | (with_reducible refine Le.atO (fun e => ?_)) | split)
noncomputable def e_graph_levels (n_ : Nat) : (((List (List Int)) × Unit) × Int × Unit) → Option ((List (List Int)) × Unit) := fun (g_1, root_2, _) =>
  (madeO (((g_1.1).length : Nat) : Int) (((g_1.1).length : Nat) : Int)).bind fun n48 =>
  (idxN ((List.replicate n48 false)).length root_2).bind fun k49 =>
  ((atO (List.replicate n48 false) k49 fun _ => some (((List.replicate n48 false)).set k49 true))).bind fun z51 =>
  (loopN (σ := ((List Int) × (List Bool) × (List (List Int)) × Unit)) (ρ := ((List (List Int)) × Unit)) (fun (now_52, seen_53, out_54, _) =>
  (bif (decide ((((now_52).length : Nat) : Int) > ((0) : Int))) then (
  (limO ((out_54).length + ([now_52]).length)).bind fun _ =>
  (loopN (σ := (Int × (List Bool) × (List (List Int)) × (List Int) × Unit)) (ρ := ((List Bool) × (List (List Int)) × (List Int) × Unit)) (fun (s_55, seen_56, out_57, next_58, _) =>
  (bif (decide (s_55 < (((now_52).length : Nat) : Int))) then (
  (getI now_52 s_55).bind fun y59 =>
  (getI g_1.1 y59).bind fun y60 =>
  (loopN (σ := (Int × (List Bool) × (List (List Int)) × (List Int) × Unit)) (ρ := ((List Bool) × (List (List Int)) × (List Int) × Unit)) (fun (s_61, seen_62, out_63, next_64, _) =>
  (bif (decide (s_61 < (((y60).length : Nat) : Int))) then (
  Option.bind (α := ((List Bool) × (List (List Int)) × (List Int) × Unit)) (
  (getI y60 s_61).bind fun y65 =>
  (idxN (seen_62).length y65).bind fun k66 =>
  ((atO seen_62 k66 fun e67 => some e67)).bind fun y68 =>
  (bif (!y68) then (
  (idxN (seen_62).length y65).bind fun k69 =>
  ((atO seen_62 k69 fun _ => some ((seen_62).set k69 true))).bind fun z71 =>
  (limO ((next_64).length + ([y65]).length)).bind fun _ =>
  some (z71, out_63, (next_64 ++ [y65]), ())) else (
  some (seen_62, out_63, next_64, ())))) fun (seen_72, out_73, next_74, _) =>
  some (.inl ((IntKind.i64.wrap (s_61 + ((1) : Int))), seen_72, out_73, next_74, ()))) else (
  some (.inr (seen_62, out_63, next_64, ()))))) n_ (((0) : Int), seen_56, out_57, next_58, ())).bind fun (seen_75, out_76, next_77, _) =>
  some (.inl ((IntKind.i64.wrap (s_55 + ((1) : Int))), seen_75, out_76, next_77, ()))) else (
  some (.inr (seen_56, out_57, next_58, ()))))) n_ (((0) : Int), seen_53, (out_54 ++ [now_52]), [], ())).bind fun (seen_78, out_79, next_80, _) =>
  (e_slices_Sort_int_int n_ (next_80, ())).bind fun (m81, _) =>
  some (.inl (m81, seen_78, out_79, ()))) else (
  some (.inr (out_54, ()))))) n_ ([root_2], z51, [], ())).bind fun (out_82, _) =>
  some (out_82, ())
set_option maxHeartbeats 4000000 in
theorem le_graph_levels (n_ : Nat) (a : (((List (List Int)) × Unit) × Int × Unit)) : Le (e_graph_levels n_ a) (d_graph_levels a) := by
  unfold e_graph_levels d_graph_levels
  repeat' (first | with_reducible exact Le.refl _ | with_reducible exact le_slices_Sort_int_int _ _ | (with_reducible refine Le.bind ?_ (fun y => ?_)) | (with_reducible refine Le.bif ?_ ?_) | (with_reducible refine Le.loop (fun s => ?_) _ _) | (with_reducible refine Le.atO (fun e => ?_)) | split)
noncomputable def e_slices_Grow_int_int (n_ : Nat) : Unit × Int × Unit → Option (List Int × Unit) := fun a => (grSem a.2.1).map fun r => (r, ())
theorem le_slices_Grow_int_int (n_ : Nat) (a : Unit × Int × Unit) : Le (e_slices_Grow_int_int n_ a) (d_slices_Grow_int_int a) := Le.refl _
noncomputable def e_slices_Concat_int_int (n_ : Nat) : ((List (List Int)) × Unit) → Option ((List Int) × Unit) := fun (slices_1, _) =>
  (loopN (σ := (Int × Int × Unit)) (ρ := (Int × Unit)) (fun (size_2, s_3, _) =>
  (bif (decide (s_3 < (((slices_1).length : Nat) : Int))) then (
  Option.bind (α := (Int × Unit)) (
  (getI slices_1 s_3).bind fun y4 =>
  (bif (decide ((IntKind.i64.wrap (size_2 + (((y4).length : Nat) : Int))) < ((0) : Int))) then (
  none) else (
  some ((IntKind.i64.wrap (size_2 + (((y4).length : Nat) : Int))), ())))) fun (size_5, _) =>
  some (.inl (size_5, (IntKind.i64.wrap (s_3 + ((1) : Int))), ()))) else (
  some (.inr (size_2, ()))))) n_ (((0) : Int), ((0) : Int), ())).bind fun (size_6, _) =>
  (e_slices_Grow_int_int n_ ((), size_6, ())).bind fun (r7, _) =>
  (loopN (σ := (Int × (List Int) × Unit)) (ρ := ((List Int) × Unit)) (fun (s_8, newslice_9, _) =>
  (bif (decide (s_8 < (((slices_1).length : Nat) : Int))) then (
  (getI slices_1 s_8).bind fun y10 =>
  (limO ((newslice_9).length + (y10).length)).bind fun _ =>
  some (.inl ((IntKind.i64.wrap (s_8 + ((1) : Int))), (newslice_9 ++ y10), ()))) else (
  some (.inr (newslice_9, ()))))) n_ (((0) : Int), r7, ())).bind fun (newslice_11, _) =>
  some (newslice_11, ())
set_option maxHeartbeats 4000000 in
theorem le_slices_Concat_int_int (n_ : Nat) (a : ((List (List Int)) × Unit)) : Le (e_slices_Concat_int_int n_ a) (d_slices_Concat_int_int a) := by
  unfold e_slices_Concat_int_int d_slices_Concat_int_int
  repeat' (first | with_reducible exact Le.refl _ | with_reducible exact le_slices_Grow_int_int _ _ | (with_reducible refine Le.bind ?_ (fun y => ?_)) | (with_reducible refine Le.bif ?_ ?_) | (with_reducible refine Le.loop (fun s => ?_) _ _) | (with_reducible refine Le.atO (fun e => ?_)) | split)
noncomputable def e_graph_Components (n_ : Nat) : (((List (List Int)) × Unit) × Unit) → Option ((List (List Int)) × Unit) := fun (g_1, _) =>
  (e_graph_Check n_ (g_1, ())).bind fun (r55, _) =>
  (bif (r55 != ((0) : Int)) then (
  some ([], ())) else (
  (madeO (((g_1.1).length : Nat) : Int) (((g_1.1).length : Nat) : Int)).bind fun n56 =>
  (loopN (σ := (Int × (List Bool) × (List (List Int)) × Unit)) (ρ := ((List (List Int)) × Unit)) (fun (s_57, seen_58, out_59, _) =>
  (bif (decide (s_57 < (((g_1.1).length : Nat) : Int))) then (
  Option.bind (α := ((List Bool) × (List (List Int)) × Unit)) (
  (idxN (seen_58).length s_57).bind fun k60 =>
  ((atO seen_58 k60 fun e61 => some e61)).bind fun y62 =>
  (bif y62 then (
  some (seen_58, out_59, ())) else (
  (e_graph_levels n_ (g_1, s_57, ())).bind fun (r63, _) =>
  (e_slices_Concat_int_int n_ (r63, ())).bind fun (r64, _) =>
  (e_slices_Sort_int_int n_ (r64, ())).bind fun (m65, _) =>
  (loopN (σ := (Int × (List Bool) × (List (List Int)) × (List Int) × Unit)) (ρ := ((List Bool) × (List (List Int)) × (List Int) × Unit)) (fun (s_66, seen_67, out_68, part_69, _) =>
  (bif (decide (s_66 < (((m65).length : Nat) : Int))) then (
  (idxN (part_69).length s_66).bind fun k70 =>
  ((atO part_69 k70 fun e71 => some e71)).bind fun y72 =>
  (idxN (seen_67).length y72).bind fun k73 =>
  ((atO seen_67 k73 fun _ => some ((seen_67).set k73 true))).bind fun z75 =>
  some (.inl ((IntKind.i64.wrap (s_66 + ((1) : Int))), z75, out_68, part_69, ()))) else (
  some (.inr (seen_67, out_68, part_69, ()))))) n_ (((0) : Int), seen_58, out_59, m65, ())).bind fun (seen_76, out_77, part_78, _) =>
  (limO ((out_77).length + ([part_78]).length)).bind fun _ =>
  some (seen_76, (out_77 ++ [part_78]), ())))) fun (seen_79, out_80, _) =>
  some (.inl ((IntKind.i64.wrap (s_57 + ((1) : Int))), seen_79, out_80, ()))) else (
  some (.inr (out_59, ()))))) n_ (((0) : Int), (List.replicate n56 false), [], ())).bind fun (out_81, _) =>
  some (out_81, ())))
set_option maxHeartbeats 4000000 in
theorem le_graph_Components (n_ : Nat) (a : (((List (List Int)) × Unit) × Unit)) : Le (e_graph_Components n_ a) (d_graph_Components a) := by
  unfold e_graph_Components d_graph_Components
  repeat' (first | with_reducible exact Le.refl _ | with_reducible exact le_graph_Check _ _ | with_reducible exact le_slices_Concat_int_int _ _ | with_reducible exact le_graph_levels _ _ | with_reducible exact le_slices_Sort_int_int _ _ | (with_reducible refine Le.bind ?_ (fun y => ?_)) | (with_reducible refine Le.bif ?_ ?_) | (with_reducible refine Le.loop (fun s => ?_) _ _) | (with_reducible refine Le.atO (fun e => ?_)) | split)
noncomputable def e_graph_vertex (n_ : Nat) : (((List (List Int)) × Unit) × Int × Unit) → Option (Bool × Unit) := fun (g_1, v_2, _) =>
  (bif ((decide (v_2 ≥ ((0) : Int))) == true) then (some ((decide (v_2 < (((g_1.1).length : Nat) : Int))), ())) else (some (false, ())))
set_option maxHeartbeats 4000000 in
theorem le_graph_vertex (n_ : Nat) (a : (((List (List Int)) × Unit) × Int × Unit)) : Le (e_graph_vertex n_ a) (d_graph_vertex a) := by
  unfold e_graph_vertex d_graph_vertex
  repeat' (first | with_reducible exact Le.refl _  | (with_reducible refine Le.bind ?_ (fun y => ?_)) | (with_reducible refine Le.bif ?_ ?_) | (with_reducible refine Le.loop (fun s => ?_) _ _) | (with_reducible refine Le.atO (fun e => ?_)) | split)
noncomputable def e_graph_Peripheral (n_ : Nat) : (((List (List Int)) × Unit) × Int × Unit) → Option (Int × Unit) := fun (g_1, v_2, _) =>
  Option.bind (α := Unit ⊕ (Int × Unit)) (
  (e_graph_Check n_ (g_1, ())).bind fun (r3, _) =>
  (bif ((r3 != ((0) : Int)) == false) then ((e_graph_vertex n_ (g_1, v_2, ())).bind fun (r4, _) =>
  (bif (!r4) then (
  some (.inr ((-1 : Int), ()))) else (
  some (.inl ())))) else (some (.inr ((-1 : Int), ()))))) fun q => match q with
  | .inl _ => (
  (e_graph_levels n_ (g_1, v_2, ())).bind fun (r5, _) =>
  (loopN (σ := (Int × (List (List Int)) × Unit)) (ρ := (Int × Unit)) (fun (v_6, now_7, _) =>
  (getI now_7 (IntKind.i64.wrap ((((now_7).length : Nat) : Int) - ((1) : Int)))).bind fun y8 =>
  (getI y8 ((0) : Int)).bind fun y9 =>
  (loopN (σ := (Int × Int × Unit)) (ρ := (Int × Unit)) (fun (w_10, s_11, _) =>
  (bif (decide (s_11 < (((y8).length : Nat) : Int))) then (
  Option.bind (α := (Int × Unit)) (
  (getI y8 s_11).bind fun y12 =>
  (getI g_1.1 y12).bind fun y13 =>
  (getI g_1.1 w_10).bind fun y14 =>
  (bif (decide ((((y13).length : Nat) : Int) < (((y14).length : Nat) : Int))) then (
  some (y12, ())) else (
  some (w_10, ())))) fun (w_15, _) =>
  some (.inl (w_15, (IntKind.i64.wrap (s_11 + ((1) : Int))), ()))) else (
  some (.inr (w_10, ()))))) n_ (y9, ((0) : Int), ())).bind fun (w_16, _) =>
  (e_graph_levels n_ (g_1, w_16, ())).bind fun (r17, _) =>
  (bif (decide ((((r17).length : Nat) : Int) ≤ (((now_7).length : Nat) : Int))) then (
  some (.inr (v_6, ()))) else (
  some (.inl (w_16, r17, ()))))) n_ (v_2, r5, ())).bind some)
  | .inr r => some r
set_option maxHeartbeats 4000000 in
theorem le_graph_Peripheral (n_ : Nat) (a : (((List (List Int)) × Unit) × Int × Unit)) : Le (e_graph_Peripheral n_ a) (d_graph_Peripheral a) := by
  unfold e_graph_Peripheral d_graph_Peripheral
  repeat' (first | with_reducible exact Le.refl _ | with_reducible exact le_graph_Check _ _ | with_reducible exact le_graph_levels _ _ | with_reducible exact le_graph_vertex _ _ | (with_reducible refine Le.bind ?_ (fun y => ?_)) | (with_reducible refine Le.bif ?_ ?_) | (with_reducible refine Le.loop (fun s => ?_) _ _) | (with_reducible refine Le.atO (fun e => ?_)) | split)
noncomputable def e_cmp_Compare_int (n_ : Nat) : (Int × Int × Unit) → Option (Int × Unit) := fun (x_1, y_2, _) =>
  (e_cmp_isNaN_int n_ (x_1, ())).bind fun (r3, _) =>
  (e_cmp_isNaN_int n_ (y_2, ())).bind fun (r4, _) =>
  (bif r3 then (
  (bif r4 then (
  some (((0) : Int), ())) else (
  some ((-1 : Int), ())))) else (
  (bif r4 then (
  some (((1) : Int), ())) else (
  (bif (decide (x_1 < y_2)) then (
  some ((-1 : Int), ())) else (
  (bif (decide (x_1 > y_2)) then (
  some (((1) : Int), ())) else (
  some (((0) : Int), ())))))))))
set_option maxHeartbeats 4000000 in
theorem le_cmp_Compare_int (n_ : Nat) (a : (Int × Int × Unit)) : Le (e_cmp_Compare_int n_ a) (d_cmp_Compare_int a) := by
  unfold e_cmp_Compare_int d_cmp_Compare_int
  repeat' (first | with_reducible exact Le.refl _ | with_reducible exact le_cmp_isNaN_int _ _ | (with_reducible refine Le.bind ?_ (fun y => ?_)) | (with_reducible refine Le.bif ?_ ?_) | (with_reducible refine Le.loop (fun s => ?_) _ _) | (with_reducible refine Le.atO (fun e => ?_)) | split)
noncomputable def e_cmp_Or_int (n_ : Nat) : ((List Int) × Unit) → Option (Int × Unit) := fun (vals_1, _) =>
  (loopN (σ := (Int × Unit)) (ρ := (Unit ⊕ (Int × Unit))) (fun (s_2, _) =>
  (bif (decide (s_2 < (((vals_1).length : Nat) : Int))) then (
  (getI vals_1 s_2).bind fun y3 =>
  (bif (y3 != ((0) : Int)) then (
  some (.inr (.inr (y3, ())))) else (
  some (.inl ((IntKind.i64.wrap (s_2 + ((1) : Int))), ()))))) else (
  some (.inr (.inl ()))))) n_ (((0) : Int), ())).bind fun q => match q with
  | .inl _ => (
  some (((0) : Int), ()))
  | .inr r => some r
set_option maxHeartbeats 4000000 in
theorem le_cmp_Or_int (n_ : Nat) (a : ((List Int) × Unit)) : Le (e_cmp_Or_int n_ a) (d_cmp_Or_int a) := by
  unfold e_cmp_Or_int d_cmp_Or_int
  repeat' (first | with_reducible exact Le.refl _  | (with_reducible refine Le.bind ?_ (fun y => ?_)) | (with_reducible refine Le.bif ?_ ?_) | (with_reducible refine Le.loop (fun s => ?_) _ _) | (with_reducible refine Le.atO (fun e => ?_)) | split)
noncomputable def e_rcm_grow_1q_q0 (n_ : Nat) : (Int × Int × (Option ((List (List Int)) × Unit)) × Unit) → Option (Int × Unit) := fun (a_1, b_2, p_3, _) =>
  (p_3).bind fun y4 =>
  (getI y4.1 a_1).bind fun y5 =>
  (p_3).bind fun y6 =>
  (getI y6.1 b_2).bind fun y7 =>
  (e_cmp_Compare_int n_ ((((y5).length : Nat) : Int), (((y7).length : Nat) : Int), ())).bind fun (r8, _) =>
  (e_cmp_Compare_int n_ (a_1, b_2, ())).bind fun (r9, _) =>
  (e_cmp_Or_int n_ ([r8, r9], ())).bind fun (r10, _) =>
  some (r10, ())
set_option maxHeartbeats 4000000 in
theorem le_rcm_grow_1q_q0 (n_ : Nat) (a : (Int × Int × (Option ((List (List Int)) × Unit)) × Unit)) : Le (e_rcm_grow_1q_q0 n_ a) (d_rcm_grow_1q_q0 a) := by
  unfold e_rcm_grow_1q_q0 d_rcm_grow_1q_q0
  repeat' (first | with_reducible exact Le.refl _ | with_reducible exact le_cmp_Or_int _ _ | with_reducible exact le_cmp_Compare_int _ _ | (with_reducible refine Le.bind ?_ (fun y => ?_)) | (with_reducible refine Le.bif ?_ ?_) | (with_reducible refine Le.loop (fun s => ?_) _ _) | (with_reducible refine Le.atO (fun e => ?_)) | split)
noncomputable def e_slices_insertionSortCmpFunc_int_rcm (n_ : Nat) : ((List Int) × Int × Int × ((Option ((List (List Int)) × Unit)) × Unit) × Unit) → Option ((List Int) × Unit) := fun (data_1, a_2, b_3, cmp_4, _) =>
  (loopN (σ := (Int × (List Int) × Unit)) (ρ := ((List Int) × Unit)) (fun (i_5, data_6, _) =>
  (bif (decide (i_5 < b_3)) then (
  (loopN (σ := (Int × (List Int) × Unit)) (ρ := ((List Int) × Unit)) (fun (j_7, data_8, _) =>
  Option.bind (α := ((List Int) × Unit) ⊕ ((Int × (List Int) × Unit) ⊕ ((List Int) × Unit))) (
  (bif ((decide (j_7 > a_2)) == true) then ((idxN (data_8).length j_7).bind fun k9 =>
  ((atO data_8 k9 fun e10 => some e10)).bind fun y11 =>
  (idxN (data_8).length (IntKind.i64.wrap (j_7 - ((1) : Int)))).bind fun k12 =>
  ((atO data_8 k12 fun e13 => some e13)).bind fun y14 =>
  (e_rcm_grow_1q_q0 n_ (y11, y14, cmp_4.1, ())).bind fun (r15, _) =>
  (bif (decide (r15 < ((0) : Int))) then (
  some (.inl (data_8, ()))) else (
  some (.inr (.inr (data_8, ())))))) else (some (.inr (.inr (data_8, ())))))) fun q => match q with
  | .inl (data_16, _) => (
  (idxN (data_16).length (IntKind.i64.wrap (j_7 - ((1) : Int)))).bind fun k17 =>
  ((atO data_16 k17 fun e18 => some e18)).bind fun y19 =>
  (idxN (data_16).length j_7).bind fun k20 =>
  ((atO data_16 k20 fun e21 => some e21)).bind fun y22 =>
  (idxN (data_16).length j_7).bind fun k23 =>
  ((atO data_16 k23 fun _ => some ((data_16).set k23 y19))).bind fun z25 =>
  (idxN (z25).length (IntKind.i64.wrap (j_7 - ((1) : Int)))).bind fun k26 =>
  ((atO z25 k26 fun _ => some ((z25).set k26 y22))).bind fun z28 =>
  some (.inl ((IntKind.i64.wrap (j_7 - ((1) : Int))), z28, ())))
  | .inr r => some r) n_ (i_5, data_6, ())).bind fun (data_29, _) =>
  some (.inl ((IntKind.i64.wrap (i_5 + ((1) : Int))), data_29, ()))) else (
  some (.inr (data_6, ()))))) n_ ((IntKind.i64.wrap (a_2 + ((1) : Int))), data_1, ())).bind fun (data_30, _) =>
  some (data_30, ())
set_option maxHeartbeats 4000000 in
theorem le_slices_insertionSortCmpFunc_int_rcm (n_ : Nat) (a : ((List Int) × Int × Int × ((Option ((List (List Int)) × Unit)) × Unit) × Unit)) : Le (e_slices_insertionSortCmpFunc_int_rcm n_ a) (d_slices_insertionSortCmpFunc_int_rcm a) := by
  unfold e_slices_insertionSortCmpFunc_int_rcm d_slices_insertionSortCmpFunc_int_rcm
  repeat' (first | with_reducible exact Le.refl _ | with_reducible exact le_rcm_grow_1q_q0 _ _ | (with_reducible refine Le.bind ?_ (fun y => ?_)) | (with_reducible refine Le.bif ?_ ?_) | (with_reducible refine Le.loop (fun s => ?_) _ _) | (with_reducible refine Le.atO (fun e => ?_)) | split)
noncomputable def e_slices_siftDownCmpFunc_int_rcm (n_ : Nat) : ((List Int) × Int × Int × Int × ((Option ((List (List Int)) × Unit)) × Unit) × Unit) → Option ((List Int) × Unit) := fun (data_1, lo_2, hi_3, first_4, cmp_5, _) =>
  (loopN (σ := (Int × (List Int) × Unit)) (ρ := (((List Int) × Unit) ⊕ ((List Int) × Unit))) (fun (root_6, data_7, _) =>
  (bif (decide ((IntKind.i64.wrap ((IntKind.i64.wrap (((2) : Int) * root_6)) + ((1) : Int))) ≥ hi_3)) then (
  some (.inr (.inl (data_7, ())))) else (
  Option.bind (α := (Int × (List Int) × Unit)) (
  Option.bind (α := (Bool × (List Int) × Unit)) (
  (bif ((decide ((IntKind.i64.wrap ((IntKind.i64.wrap ((IntKind.i64.wrap (((2) : Int) * root_6)) + ((1) : Int))) + ((1) : Int))) < hi_3)) == true) then ((idxN (data_7).length (IntKind.i64.wrap (first_4 + (IntKind.i64.wrap ((IntKind.i64.wrap (((2) : Int) * root_6)) + ((1) : Int)))))).bind fun k8 =>
  ((atO data_7 k8 fun e9 => some e9)).bind fun y10 =>
  (idxN (data_7).length (IntKind.i64.wrap ((IntKind.i64.wrap (first_4 + (IntKind.i64.wrap ((IntKind.i64.wrap (((2) : Int) * root_6)) + ((1) : Int))))) + ((1) : Int)))).bind fun k11 =>
  ((atO data_7 k11 fun e12 => some e12)).bind fun y13 =>
  (e_rcm_grow_1q_q0 n_ (y10, y13, cmp_5.1, ())).bind fun (r14, _) =>
  some ((decide (r14 < ((0) : Int))), data_7, ())) else (some (false, data_7, ())))) fun (s_15, data_16, _) =>
  (bif s_15 then (
  some ((IntKind.i64.wrap ((IntKind.i64.wrap ((IntKind.i64.wrap (((2) : Int) * root_6)) + ((1) : Int))) + ((1) : Int))), data_16, ())) else (
  some ((IntKind.i64.wrap ((IntKind.i64.wrap (((2) : Int) * root_6)) + ((1) : Int))), data_16, ())))) fun (child_17, data_18, _) =>
  (idxN (data_18).length (IntKind.i64.wrap (first_4 + root_6))).bind fun k19 =>
  ((atO data_18 k19 fun e20 => some e20)).bind fun y21 =>
  (idxN (data_18).length (IntKind.i64.wrap (first_4 + child_17))).bind fun k22 =>
  ((atO data_18 k22 fun e23 => some e23)).bind fun y24 =>
  (e_rcm_grow_1q_q0 n_ (y21, y24, cmp_5.1, ())).bind fun (r25, _) =>
  (bif (!(decide (r25 < ((0) : Int)))) then (
  some (.inr (.inr (data_18, ())))) else (
  (idxN (data_18).length (IntKind.i64.wrap (first_4 + child_17))).bind fun k26 =>
  ((atO data_18 k26 fun e27 => some e27)).bind fun y28 =>
  (idxN (data_18).length (IntKind.i64.wrap (first_4 + root_6))).bind fun k29 =>
  ((atO data_18 k29 fun e30 => some e30)).bind fun y31 =>
  (idxN (data_18).length (IntKind.i64.wrap (first_4 + root_6))).bind fun k32 =>
  ((atO data_18 k32 fun _ => some ((data_18).set k32 y28))).bind fun z34 =>
  (idxN (z34).length (IntKind.i64.wrap (first_4 + child_17))).bind fun k35 =>
  ((atO z34 k35 fun _ => some ((z34).set k35 y31))).bind fun z37 =>
  some (.inl (child_17, z37, ()))))))) n_ (lo_2, data_1, ())).bind fun q => match q with
  | .inl (data_38, _) => (
  some (data_38, ()))
  | .inr r => some r
set_option maxHeartbeats 4000000 in
theorem le_slices_siftDownCmpFunc_int_rcm (n_ : Nat) (a : ((List Int) × Int × Int × Int × ((Option ((List (List Int)) × Unit)) × Unit) × Unit)) : Le (e_slices_siftDownCmpFunc_int_rcm n_ a) (d_slices_siftDownCmpFunc_int_rcm a) := by
  unfold e_slices_siftDownCmpFunc_int_rcm d_slices_siftDownCmpFunc_int_rcm
  repeat' (first | with_reducible exact Le.refl _ | with_reducible exact le_rcm_grow_1q_q0 _ _ | (with_reducible refine Le.bind ?_ (fun y => ?_)) | (with_reducible refine Le.bif ?_ ?_) | (with_reducible refine Le.loop (fun s => ?_) _ _) | (with_reducible refine Le.atO (fun e => ?_)) | split)
noncomputable def e_slices_heapSortCmpFunc_int_rcm (n_ : Nat) : ((List Int) × Int × Int × ((Option ((List (List Int)) × Unit)) × Unit) × Unit) → Option ((List Int) × Unit) := fun (data_1, a_2, b_3, cmp_4, _) =>
  (quoO IntKind.i64 (IntKind.i64.wrap ((IntKind.i64.wrap (b_3 - a_2)) - ((1) : Int))) ((2) : Int)).bind fun y5 =>
  (loopN (σ := (Int × (List Int) × Unit)) (ρ := ((List Int) × Unit)) (fun (i_6, data_7, _) =>
  (bif (decide (i_6 ≥ ((0) : Int))) then (
  (e_slices_siftDownCmpFunc_int_rcm n_ (data_7, i_6, (IntKind.i64.wrap (b_3 - a_2)), a_2, (cmp_4.1, ()), ())).bind fun (m8, _) =>
  some (.inl ((IntKind.i64.wrap (i_6 - ((1) : Int))), m8, ()))) else (
  some (.inr (data_7, ()))))) n_ (y5, data_1, ())).bind fun (data_9, _) =>
  (loopN (σ := (Int × (List Int) × Unit)) (ρ := ((List Int) × Unit)) (fun (i_10, data_11, _) =>
  (bif (decide (i_10 ≥ ((0) : Int))) then (
  (idxN (data_11).length (IntKind.i64.wrap (a_2 + i_10))).bind fun k12 =>
  ((atO data_11 k12 fun e13 => some e13)).bind fun y14 =>
  (idxN (data_11).length a_2).bind fun k15 =>
  ((atO data_11 k15 fun e16 => some e16)).bind fun y17 =>
  (idxN (data_11).length a_2).bind fun k18 =>
  ((atO data_11 k18 fun _ => some ((data_11).set k18 y14))).bind fun z20 =>
  (idxN (z20).length (IntKind.i64.wrap (a_2 + i_10))).bind fun k21 =>
  ((atO z20 k21 fun _ => some ((z20).set k21 y17))).bind fun z23 =>
  (e_slices_siftDownCmpFunc_int_rcm n_ (z23, ((0) : Int), i_10, a_2, (cmp_4.1, ()), ())).bind fun (m24, _) =>
  some (.inl ((IntKind.i64.wrap (i_10 - ((1) : Int))), m24, ()))) else (
  some (.inr (data_11, ()))))) n_ ((IntKind.i64.wrap ((IntKind.i64.wrap (b_3 - a_2)) - ((1) : Int))), data_9, ())).bind fun (data_25, _) =>
  some (data_25, ())
set_option maxHeartbeats 4000000 in
theorem le_slices_heapSortCmpFunc_int_rcm (n_ : Nat) (a : ((List Int) × Int × Int × ((Option ((List (List Int)) × Unit)) × Unit) × Unit)) : Le (e_slices_heapSortCmpFunc_int_rcm n_ a) (d_slices_heapSortCmpFunc_int_rcm a) := by
  unfold e_slices_heapSortCmpFunc_int_rcm d_slices_heapSortCmpFunc_int_rcm
  repeat' (first | with_reducible exact Le.refl _ | with_reducible exact le_slices_siftDownCmpFunc_int_rcm _ _ | (with_reducible refine Le.bind ?_ (fun y => ?_)) | (with_reducible refine Le.bif ?_ ?_) | (with_reducible refine Le.loop (fun s => ?_) _ _) | (with_reducible refine Le.atO (fun e => ?_)) | split)
noncomputable def e_slices_breakPatternsCmpFunc_int_rcm (n_ : Nat) : ((List Int) × Int × Int × ((Option ((List (List Int)) × Unit)) × Unit) × Unit) → Option ((List Int) × Unit) := fun (data_1, a_2, b_3, _, _) =>
  (bif (decide ((IntKind.i64.wrap (b_3 - a_2)) ≥ ((8) : Int))) then (
  (e_slices_nextPowerOfTwo n_ ((IntKind.i64.wrap (b_3 - a_2)), ())).bind fun (r5, _) =>
  (quoO IntKind.i64 (IntKind.i64.wrap (b_3 - a_2)) ((4) : Int)).bind fun y6 =>
  (loopN (σ := (Int × (List Int) × Int × Unit)) (ρ := ((List Int) × Unit)) (fun (idx_7, data_8, random_9, _) =>
  (quoO IntKind.i64 (IntKind.i64.wrap (b_3 - a_2)) ((4) : Int)).bind fun y10 =>
  (bif (decide (idx_7 ≤ (IntKind.i64.wrap ((IntKind.i64.wrap (a_2 + (IntKind.i64.wrap (y10 * ((2) : Int))))) + ((1) : Int))))) then (
  Option.bind (α := ((List Int) × Int × Unit)) (
  (e_slices_xorshift_Next n_ (random_9, ())).bind fun (m11, r12, _) =>
  Option.bind (α := (Int × (List Int) × Int × Unit)) (
  (bif (decide ((IntKind.i64.wrap (andI IntKind.u64 r12 (IntKind.u64.wrap (r5 - ((1) : Int))))) ≥ (IntKind.i64.wrap (b_3 - a_2)))) then (
  some ((IntKind.i64.wrap ((IntKind.i64.wrap (andI IntKind.u64 r12 (IntKind.u64.wrap (r5 - ((1) : Int))))) - (IntKind.i64.wrap (b_3 - a_2)))), data_8, m11, ())) else (
  some ((IntKind.i64.wrap (andI IntKind.u64 r12 (IntKind.u64.wrap (r5 - ((1) : Int))))), data_8, m11, ())))) fun (other_13, data_14, random_15, _) =>
  (idxN (data_14).length (IntKind.i64.wrap (a_2 + other_13))).bind fun k16 =>
  ((atO data_14 k16 fun e17 => some e17)).bind fun y18 =>
  (idxN (data_14).length idx_7).bind fun k19 =>
  ((atO data_14 k19 fun e20 => some e20)).bind fun y21 =>
  (idxN (data_14).length idx_7).bind fun k22 =>
  ((atO data_14 k22 fun _ => some ((data_14).set k22 y18))).bind fun z24 =>
  (idxN (z24).length (IntKind.i64.wrap (a_2 + other_13))).bind fun k25 =>
  ((atO z24 k25 fun _ => some ((z24).set k25 y21))).bind fun z27 =>
  some (z27, random_15, ())) fun (data_28, random_29, _) =>
  some (.inl ((IntKind.i64.wrap (idx_7 + ((1) : Int))), data_28, random_29, ()))) else (
  some (.inr (data_8, ()))))) n_ ((IntKind.i64.wrap ((IntKind.i64.wrap (a_2 + (IntKind.i64.wrap (y6 * ((2) : Int))))) - ((1) : Int))), data_1, (IntKind.u64.wrap (IntKind.i64.wrap (b_3 - a_2))), ())).bind fun (data_30, _) =>
  some (data_30, ())) else (
  some (data_1, ())))
set_option maxHeartbeats 4000000 in
theorem le_slices_breakPatternsCmpFunc_int_rcm (n_ : Nat) (a : ((List Int) × Int × Int × ((Option ((List (List Int)) × Unit)) × Unit) × Unit)) : Le (e_slices_breakPatternsCmpFunc_int_rcm n_ a) (d_slices_breakPatternsCmpFunc_int_rcm a) := by
  unfold e_slices_breakPatternsCmpFunc_int_rcm d_slices_breakPatternsCmpFunc_int_rcm
  repeat' (first | with_reducible exact Le.refl _ | with_reducible exact le_slices_nextPowerOfTwo _ _ | with_reducible exact le_slices_xorshift_Next _ _ | (with_reducible refine Le.bind ?_ (fun y => ?_)) | (with_reducible refine Le.bif ?_ ?_) | (with_reducible refine Le.loop (fun s => ?_) _ _) | (with_reducible refine Le.atO (fun e => ?_)) | split)
noncomputable def e_slices_order2CmpFunc_int_rcm (n_ : Nat) : ((List Int) × Int × Int × Int × ((Option ((List (List Int)) × Unit)) × Unit) × Unit) → Option (Int × Int × Int × Unit) := fun (data_1, a_2, b_3, swaps_4, cmp_5, _) =>
  (getI data_1 b_3).bind fun y6 =>
  (getI data_1 a_2).bind fun y7 =>
  (e_rcm_grow_1q_q0 n_ (y6, y7, cmp_5.1, ())).bind fun (r8, _) =>
  (bif (decide (r8 < ((0) : Int))) then (
  some ((IntKind.i64.wrap (swaps_4 + ((1) : Int))), b_3, a_2, ())) else (
  some (swaps_4, a_2, b_3, ())))
set_option maxHeartbeats 4000000 in
theorem le_slices_order2CmpFunc_int_rcm (n_ : Nat) (a : ((List Int) × Int × Int × Int × ((Option ((List (List Int)) × Unit)) × Unit) × Unit)) : Le (e_slices_order2CmpFunc_int_rcm n_ a) (d_slices_order2CmpFunc_int_rcm a) := by
  unfold e_slices_order2CmpFunc_int_rcm d_slices_order2CmpFunc_int_rcm
  repeat' (first | with_reducible exact Le.refl _ | with_reducible exact le_rcm_grow_1q_q0 _ _ | (with_reducible refine Le.bind ?_ (fun y => ?_)) | (with_reducible refine Le.bif ?_ ?_) | (with_reducible refine Le.loop (fun s => ?_) _ _) | (with_reducible refine Le.atO (fun e => ?_)) | split)
noncomputable def e_slices_medianCmpFunc_int_rcm (n_ : Nat) : ((List Int) × Int × Int × Int × Int × ((Option ((List (List Int)) × Unit)) × Unit) × Unit) → Option (Int × Int × Unit) := fun (data_1, a_2, b_3, c_4, swaps_5, cmp_6, _) =>
  (e_slices_order2CmpFunc_int_rcm n_ (data_1, a_2, b_3, swaps_5, (cmp_6.1, ()), ())).bind fun (m7, r8, r9, _) =>
  (e_slices_order2CmpFunc_int_rcm n_ (data_1, r9, c_4, m7, (cmp_6.1, ()), ())).bind fun (m10, r11, _, _) =>
  (e_slices_order2CmpFunc_int_rcm n_ (data_1, r8, r11, m10, (cmp_6.1, ()), ())).bind fun (m13, _, r15, _) =>
  some (m13, r15, ())
set_option maxHeartbeats 4000000 in
theorem le_slices_medianCmpFunc_int_rcm (n_ : Nat) (a : ((List Int) × Int × Int × Int × Int × ((Option ((List (List Int)) × Unit)) × Unit) × Unit)) : Le (e_slices_medianCmpFunc_int_rcm n_ a) (d_slices_medianCmpFunc_int_rcm a) := by
  unfold e_slices_medianCmpFunc_int_rcm d_slices_medianCmpFunc_int_rcm
  repeat' (first | with_reducible exact Le.refl _ | with_reducible exact le_slices_order2CmpFunc_int_rcm _ _ | (with_reducible refine Le.bind ?_ (fun y => ?_)) | (with_reducible refine Le.bif ?_ ?_) | (with_reducible refine Le.loop (fun s => ?_) _ _) | (with_reducible refine Le.atO (fun e => ?_)) | split)
noncomputable def e_slices_medianAdjacentCmpFunc_int_rcm (n_ : Nat) : ((List Int) × Int × Int × ((Option ((List (List Int)) × Unit)) × Unit) × Unit) → Option (Int × Int × Unit) := fun (data_1, a_2, swaps_3, cmp_4, _) =>
  (e_slices_medianCmpFunc_int_rcm n_ (data_1, (IntKind.i64.wrap (a_2 - ((1) : Int))), a_2, (IntKind.i64.wrap (a_2 + ((1) : Int))), swaps_3, (cmp_4.1, ()), ())).bind fun (m5, r6, _) =>
  some (m5, r6, ())
set_option maxHeartbeats 4000000 in
theorem le_slices_medianAdjacentCmpFunc_int_rcm (n_ : Nat) (a : ((List Int) × Int × Int × ((Option ((List (List Int)) × Unit)) × Unit) × Unit)) : Le (e_slices_medianAdjacentCmpFunc_int_rcm n_ a) (d_slices_medianAdjacentCmpFunc_int_rcm a) := by
  unfold e_slices_medianAdjacentCmpFunc_int_rcm d_slices_medianAdjacentCmpFunc_int_rcm
  repeat' (first | with_reducible exact Le.refl _ | with_reducible exact le_slices_medianCmpFunc_int_rcm _ _ | (with_reducible refine Le.bind ?_ (fun y => ?_)) | (with_reducible refine Le.bif ?_ ?_) | (with_reducible refine Le.loop (fun s => ?_) _ _) | (with_reducible refine Le.atO (fun e => ?_)) | split)
noncomputable def e_slices_choosePivotCmpFunc_int_rcm (n_ : Nat) : ((List Int) × Int × Int × ((Option ((List (List Int)) × Unit)) × Unit) × Unit) → Option (Int × Int × Unit) := fun (data_1, a_2, b_3, cmp_4, _) =>
  (quoO IntKind.i64 (IntKind.i64.wrap (b_3 - a_2)) ((4) : Int)).bind fun y5 =>
  (quoO IntKind.i64 (IntKind.i64.wrap (b_3 - a_2)) ((4) : Int)).bind fun y6 =>
  (quoO IntKind.i64 (IntKind.i64.wrap (b_3 - a_2)) ((4) : Int)).bind fun y7 =>
  Option.bind (α := (Int × Int × Unit)) (
  (bif (decide ((IntKind.i64.wrap (b_3 - a_2)) ≥ ((8) : Int))) then (
  Option.bind (α := (Int × Int × Int × Int × Unit)) (
  (bif (decide ((IntKind.i64.wrap (b_3 - a_2)) ≥ ((50) : Int))) then (
  (e_slices_medianAdjacentCmpFunc_int_rcm n_ (data_1, (IntKind.i64.wrap (a_2 + (IntKind.i64.wrap (y5 * ((1) : Int))))), (0 : Int), (cmp_4.1, ()), ())).bind fun (m8, r9, _) =>
  (e_slices_medianAdjacentCmpFunc_int_rcm n_ (data_1, (IntKind.i64.wrap (a_2 + (IntKind.i64.wrap (y6 * ((2) : Int))))), m8, (cmp_4.1, ()), ())).bind fun (m10, r11, _) =>
  (e_slices_medianAdjacentCmpFunc_int_rcm n_ (data_1, (IntKind.i64.wrap (a_2 + (IntKind.i64.wrap (y7 * ((3) : Int))))), m10, (cmp_4.1, ()), ())).bind fun (m12, r13, _) =>
  some (r9, r11, r13, m12, ())) else (
  some ((IntKind.i64.wrap (a_2 + (IntKind.i64.wrap (y5 * ((1) : Int))))), (IntKind.i64.wrap (a_2 + (IntKind.i64.wrap (y6 * ((2) : Int))))), (IntKind.i64.wrap (a_2 + (IntKind.i64.wrap (y7 * ((3) : Int))))), (0 : Int), ())))) fun (i_14, j_15, k_16, swaps_17, _) =>
  (e_slices_medianCmpFunc_int_rcm n_ (data_1, i_14, j_15, k_16, swaps_17, (cmp_4.1, ()), ())).bind fun (m18, r19, _) =>
  some (r19, m18, ())) else (
  some ((IntKind.i64.wrap (a_2 + (IntKind.i64.wrap (y6 * ((2) : Int))))), (0 : Int), ())))) fun (j_20, swaps_21, _) =>
  (bif (swaps_21 == ((0) : Int)) then (
  some (j_20, ((1) : Int), ())) else (
  (bif (swaps_21 == ((12) : Int)) then (
  some (j_20, ((2) : Int), ())) else (
  some (j_20, ((0) : Int), ())))))
set_option maxHeartbeats 4000000 in
theorem le_slices_choosePivotCmpFunc_int_rcm (n_ : Nat) (a : ((List Int) × Int × Int × ((Option ((List (List Int)) × Unit)) × Unit) × Unit)) : Le (e_slices_choosePivotCmpFunc_int_rcm n_ a) (d_slices_choosePivotCmpFunc_int_rcm a) := by
  unfold e_slices_choosePivotCmpFunc_int_rcm d_slices_choosePivotCmpFunc_int_rcm
  repeat' (first | with_reducible exact Le.refl _ | with_reducible exact le_slices_medianAdjacentCmpFunc_int_rcm _ _ | with_reducible exact le_slices_medianCmpFunc_int_rcm _ _ | (with_reducible refine Le.bind ?_ (fun y => ?_)) | (with_reducible refine Le.bif ?_ ?_) | (with_reducible refine Le.loop (fun s => ?_) _ _) | (with_reducible refine Le.atO (fun e => ?_)) | split)
noncomputable def e_slices_reverseRangeCmpFunc_int_rcm (n_ : Nat) : ((List Int) × Int × Int × ((Option ((List (List Int)) × Unit)) × Unit) × Unit) → Option ((List Int) × Unit) := fun (data_1, a_2, b_3, _, _) =>
  (loopN (σ := (Int × Int × (List Int) × Unit)) (ρ := ((List Int) × Unit)) (fun (i_5, j_6, data_7, _) =>
  (bif (decide (i_5 < j_6)) then (
  (idxN (data_7).length j_6).bind fun k8 =>
  ((atO data_7 k8 fun e9 => some e9)).bind fun y10 =>
  (idxN (data_7).length i_5).bind fun k11 =>
  ((atO data_7 k11 fun e12 => some e12)).bind fun y13 =>
  (idxN (data_7).length i_5).bind fun k14 =>
  ((atO data_7 k14 fun _ => some ((data_7).set k14 y10))).bind fun z16 =>
  (idxN (z16).length j_6).bind fun k17 =>
  ((atO z16 k17 fun _ => some ((z16).set k17 y13))).bind fun z19 =>
  some (.inl ((IntKind.i64.wrap (i_5 + ((1) : Int))), (IntKind.i64.wrap (j_6 - ((1) : Int))), z19, ()))) else (
  some (.inr (data_7, ()))))) n_ (a_2, (IntKind.i64.wrap (b_3 - ((1) : Int))), data_1, ())).bind fun (data_20, _) =>
  some (data_20, ())
set_option maxHeartbeats 4000000 in
theorem le_slices_reverseRangeCmpFunc_int_rcm (n_ : Nat) (a : ((List Int) × Int × Int × ((Option ((List (List Int)) × Unit)) × Unit) × Unit)) : Le (e_slices_reverseRangeCmpFunc_int_rcm n_ a) (d_slices_reverseRangeCmpFunc_int_rcm a) := by
  unfold e_slices_reverseRangeCmpFunc_int_rcm d_slices_reverseRangeCmpFunc_int_rcm
  repeat' (first | with_reducible exact Le.refl _  | (with_reducible refine Le.bind ?_ (fun y => ?_)) | (with_reducible refine Le.bif ?_ ?_) | (with_reducible refine Le.loop (fun s => ?_) _ _) | (with_reducible refine Le.atO (fun e => ?_)) | split)
noncomputable def e_slices_partialInsertionSortCmpFunc_int_rcm (n_ : Nat) : ((List Int) × Int × Int × ((Option ((List (List Int)) × Unit)) × Unit) × Unit) → Option ((List Int) × Bool × Unit) := fun (data_1, a_2, b_3, cmp_4, _) =>
  (loopN (σ := (Int × Int × (List Int) × Unit)) (ρ := (((List Int) × Unit) ⊕ ((List Int) × Bool × Unit))) (fun (i_5, j_6, data_7, _) =>
  (bif (decide (j_6 < ((5) : Int))) then (
  Option.bind (α := (Int × (List Int) × Unit) ⊕ ((Int × Int × (List Int) × Unit) ⊕ (((List Int) × Unit) ⊕ ((List Int) × Bool × Unit)))) (
  (loopN (σ := (Int × (List Int) × Unit)) (ρ := (Int × (List Int) × Unit)) (fun (i_8, data_9, _) =>
  Option.bind (α := ((List Int) × Unit) ⊕ ((Int × (List Int) × Unit) ⊕ (Int × (List Int) × Unit))) (
  (bif ((decide (i_8 < b_3)) == true) then ((idxN (data_9).length i_8).bind fun k10 =>
  ((atO data_9 k10 fun e11 => some e11)).bind fun y12 =>
  (idxN (data_9).length (IntKind.i64.wrap (i_8 - ((1) : Int)))).bind fun k13 =>
  ((atO data_9 k13 fun e14 => some e14)).bind fun y15 =>
  (e_rcm_grow_1q_q0 n_ (y12, y15, cmp_4.1, ())).bind fun (r16, _) =>
  (bif (!(decide (r16 < ((0) : Int)))) then (
  some (.inl (data_9, ()))) else (
  some (.inr (.inr (i_8, data_9, ())))))) else (some (.inr (.inr (i_8, data_9, ())))))) fun q => match q with
  | .inl (data_17, _) => (
  some (.inl ((IntKind.i64.wrap (i_8 + ((1) : Int))), data_17, ())))
  | .inr r => some r) n_ (i_5, data_7, ())).bind fun (i_18, data_19, _) =>
  (bif (i_18 == b_3) then (
  some (.inr (.inr (.inr (data_19, true, ()))))) else (
  (bif (decide ((IntKind.i64.wrap (b_3 - a_2)) < ((50) : Int))) then (
  some (.inr (.inr (.inr (data_19, false, ()))))) else (
  (idxN (data_19).length (IntKind.i64.wrap (i_18 - ((1) : Int)))).bind fun k20 =>
  ((atO data_19 k20 fun e21 => some e21)).bind fun y22 =>
  (idxN (data_19).length i_18).bind fun k23 =>
  ((atO data_19 k23 fun e24 => some e24)).bind fun y25 =>
  (idxN (data_19).length i_18).bind fun k26 =>
  ((atO data_19 k26 fun _ => some ((data_19).set k26 y22))).bind fun z28 =>
  (idxN (z28).length (IntKind.i64.wrap (i_18 - ((1) : Int)))).bind fun k29 =>
  ((atO z28 k29 fun _ => some ((z28).set k29 y25))).bind fun z31 =>
  Option.bind (α := ((List Int) × Unit)) (
  (bif (decide ((IntKind.i64.wrap (i_18 - a_2)) ≥ ((2) : Int))) then (
  (loopN (σ := (Int × (List Int) × Unit)) (ρ := ((List Int) × Unit)) (fun (j_32, data_33, _) =>
  (bif (decide (j_32 ≥ ((1) : Int))) then (
  (idxN (data_33).length j_32).bind fun k34 =>
  ((atO data_33 k34 fun e35 => some e35)).bind fun y36 =>
  (idxN (data_33).length (IntKind.i64.wrap (j_32 - ((1) : Int)))).bind fun k37 =>
  ((atO data_33 k37 fun e38 => some e38)).bind fun y39 =>
  (e_rcm_grow_1q_q0 n_ (y36, y39, cmp_4.1, ())).bind fun (r40, _) =>
  (bif (!(decide (r40 < ((0) : Int)))) then (
  some (.inr (data_33, ()))) else (
  (idxN (data_33).length (IntKind.i64.wrap (j_32 - ((1) : Int)))).bind fun k41 =>
  ((atO data_33 k41 fun e42 => some e42)).bind fun y43 =>
  (idxN (data_33).length j_32).bind fun k44 =>
  ((atO data_33 k44 fun e45 => some e45)).bind fun y46 =>
  (idxN (data_33).length j_32).bind fun k47 =>
  ((atO data_33 k47 fun _ => some ((data_33).set k47 y43))).bind fun z49 =>
  (idxN (z49).length (IntKind.i64.wrap (j_32 - ((1) : Int)))).bind fun k50 =>
  ((atO z49 k50 fun _ => some ((z49).set k50 y46))).bind fun z52 =>
  some (.inl ((IntKind.i64.wrap (j_32 - ((1) : Int))), z52, ()))))) else (
  some (.inr (data_33, ()))))) n_ ((IntKind.i64.wrap (i_18 - ((1) : Int))), z31, ())).bind fun (data_53, _) =>
  some (data_53, ())) else (
  some (z31, ())))) fun (data_54, _) =>
  (bif (decide ((IntKind.i64.wrap (b_3 - i_18)) ≥ ((2) : Int))) then (
  (loopN (σ := (Int × (List Int) × Unit)) (ρ := ((List Int) × Unit)) (fun (j_55, data_56, _) =>
  (bif (decide (j_55 < b_3)) then (
  (idxN (data_56).length j_55).bind fun k57 =>
  ((atO data_56 k57 fun e58 => some e58)).bind fun y59 =>
  (idxN (data_56).length (IntKind.i64.wrap (j_55 - ((1) : Int)))).bind fun k60 =>
  ((atO data_56 k60 fun e61 => some e61)).bind fun y62 =>
  (e_rcm_grow_1q_q0 n_ (y59, y62, cmp_4.1, ())).bind fun (r63, _) =>
  (bif (!(decide (r63 < ((0) : Int)))) then (
  some (.inr (data_56, ()))) else (
  (idxN (data_56).length (IntKind.i64.wrap (j_55 - ((1) : Int)))).bind fun k64 =>
  ((atO data_56 k64 fun e65 => some e65)).bind fun y66 =>
  (idxN (data_56).length j_55).bind fun k67 =>
  ((atO data_56 k67 fun e68 => some e68)).bind fun y69 =>
  (idxN (data_56).length j_55).bind fun k70 =>
  ((atO data_56 k70 fun _ => some ((data_56).set k70 y66))).bind fun z72 =>
  (idxN (z72).length (IntKind.i64.wrap (j_55 - ((1) : Int)))).bind fun k73 =>
  ((atO z72 k73 fun _ => some ((z72).set k73 y69))).bind fun z75 =>
  some (.inl ((IntKind.i64.wrap (j_55 + ((1) : Int))), z75, ()))))) else (
  some (.inr (data_56, ()))))) n_ ((IntKind.i64.wrap (i_18 + ((1) : Int))), data_54, ())).bind fun (data_76, _) =>
  some (.inl (i_18, data_76, ()))) else (
  some (.inl (i_18, data_54, ()))))))))) fun q => match q with
  | .inl (i_77, data_78, _) => (
  some (.inl (i_77, (IntKind.i64.wrap (j_6 + ((1) : Int))), data_78, ())))
  | .inr r => some r) else (
  some (.inr (.inl (data_7, ())))))) n_ ((IntKind.i64.wrap (a_2 + ((1) : Int))), ((0) : Int), data_1, ())).bind fun q => match q with
  | .inl (data_79, _) => (
  some (data_79, false, ()))
  | .inr r => some r
set_option maxHeartbeats 4000000 in
theorem le_slices_partialInsertionSortCmpFunc_int_rcm (n_ : Nat) (a : ((List Int) × Int × Int × ((Option ((List (List Int)) × Unit)) × Unit) × Unit)) : Le (e_slices_partialInsertionSortCmpFunc_int_rcm n_ a) (d_slices_partialInsertionSortCmpFunc_int_rcm a) := by
  unfold e_slices_partialInsertionSortCmpFunc_int_rcm d_slices_partialInsertionSortCmpFunc_int_rcm
  repeat' (first | with_reducible exact Le.refl _ | with_reducible exact le_rcm_grow_1q_q0 _ _ | (with_reducible refine Le.bind ?_ (fun y => ?_)) | (with_reducible refine Le.bif ?_ ?_) | (with_reducible refine Le.loop (fun s => ?_) _ _) | (with_reducible refine Le.atO (fun e => ?_)) | split)
noncomputable def e_slices_partitionEqualCmpFunc_int_rcm (n_ : Nat) : ((List Int) × Int × Int × Int × ((Option ((List (List Int)) × Unit)) × Unit) × Unit) → Option ((List Int) × Int × Unit) := fun (data_1, a_2, b_3, pivot_4, cmp_5, _) =>
  (idxN (data_1).length pivot_4).bind fun k6 =>
  ((atO data_1 k6 fun e7 => some e7)).bind fun y8 =>
  (idxN (data_1).length a_2).bind fun k9 =>
  ((atO data_1 k9 fun e10 => some e10)).bind fun y11 =>
  (idxN (data_1).length a_2).bind fun k12 =>
  ((atO data_1 k12 fun _ => some ((data_1).set k12 y8))).bind fun z14 =>
  (idxN (z14).length pivot_4).bind fun k15 =>
  ((atO z14 k15 fun _ => some ((z14).set k15 y11))).bind fun z17 =>
  (loopN (σ := (Int × Int × (List Int) × Unit)) (ρ := (Int × (List Int) × Unit)) (fun (i_18, j_19, data_20, _) =>
  (loopN (σ := (Int × (List Int) × Unit)) (ρ := (Int × (List Int) × Unit)) (fun (i_21, data_22, _) =>
  Option.bind (α := ((List Int) × Unit) ⊕ ((Int × (List Int) × Unit) ⊕ (Int × (List Int) × Unit))) (
  (bif ((decide (i_21 ≤ j_19)) == true) then ((idxN (data_22).length a_2).bind fun k23 =>
  ((atO data_22 k23 fun e24 => some e24)).bind fun y25 =>
  (idxN (data_22).length i_21).bind fun k26 =>
  ((atO data_22 k26 fun e27 => some e27)).bind fun y28 =>
  (e_rcm_grow_1q_q0 n_ (y25, y28, cmp_5.1, ())).bind fun (r29, _) =>
  (bif (!(decide (r29 < ((0) : Int)))) then (
  some (.inl (data_22, ()))) else (
  some (.inr (.inr (i_21, data_22, ())))))) else (some (.inr (.inr (i_21, data_22, ())))))) fun q => match q with
  | .inl (data_30, _) => (
  some (.inl ((IntKind.i64.wrap (i_21 + ((1) : Int))), data_30, ())))
  | .inr r => some r) n_ (i_18, data_20, ())).bind fun (i_31, data_32, _) =>
  (loopN (σ := (Int × (List Int) × Unit)) (ρ := (Int × (List Int) × Unit)) (fun (j_33, data_34, _) =>
  Option.bind (α := ((List Int) × Unit) ⊕ ((Int × (List Int) × Unit) ⊕ (Int × (List Int) × Unit))) (
  (bif ((decide (i_31 ≤ j_33)) == true) then ((idxN (data_34).length a_2).bind fun k35 =>
  ((atO data_34 k35 fun e36 => some e36)).bind fun y37 =>
  (idxN (data_34).length j_33).bind fun k38 =>
  ((atO data_34 k38 fun e39 => some e39)).bind fun y40 =>
  (e_rcm_grow_1q_q0 n_ (y37, y40, cmp_5.1, ())).bind fun (r41, _) =>
  (bif (decide (r41 < ((0) : Int))) then (
  some (.inl (data_34, ()))) else (
  some (.inr (.inr (j_33, data_34, ())))))) else (some (.inr (.inr (j_33, data_34, ())))))) fun q => match q with
  | .inl (data_42, _) => (
  some (.inl ((IntKind.i64.wrap (j_33 - ((1) : Int))), data_42, ())))
  | .inr r => some r) n_ (j_19, data_32, ())).bind fun (j_43, data_44, _) =>
  (bif (decide (i_31 > j_43)) then (
  some (.inr (i_31, data_44, ()))) else (
  (idxN (data_44).length j_43).bind fun k45 =>
  ((atO data_44 k45 fun e46 => some e46)).bind fun y47 =>
  (idxN (data_44).length i_31).bind fun k48 =>
  ((atO data_44 k48 fun e49 => some e49)).bind fun y50 =>
  (idxN (data_44).length i_31).bind fun k51 =>
  ((atO data_44 k51 fun _ => some ((data_44).set k51 y47))).bind fun z53 =>
  (idxN (z53).length j_43).bind fun k54 =>
  ((atO z53 k54 fun _ => some ((z53).set k54 y50))).bind fun z56 =>
  some (.inl ((IntKind.i64.wrap (i_31 + ((1) : Int))), (IntKind.i64.wrap (j_43 - ((1) : Int))), z56, ()))))) n_ ((IntKind.i64.wrap (a_2 + ((1) : Int))), (IntKind.i64.wrap (b_3 - ((1) : Int))), z17, ())).bind fun (i_57, data_58, _) =>
  some (data_58, i_57, ())
set_option maxHeartbeats 4000000 in
theorem le_slices_partitionEqualCmpFunc_int_rcm (n_ : Nat) (a : ((List Int) × Int × Int × Int × ((Option ((List (List Int)) × Unit)) × Unit) × Unit)) : Le (e_slices_partitionEqualCmpFunc_int_rcm n_ a) (d_slices_partitionEqualCmpFunc_int_rcm a) := by
  unfold e_slices_partitionEqualCmpFunc_int_rcm d_slices_partitionEqualCmpFunc_int_rcm
  repeat' (first | with_reducible exact Le.refl _ | with_reducible exact le_rcm_grow_1q_q0 _ _ | (with_reducible refine Le.bind ?_ (fun y => ?_)) | (with_reducible refine Le.bif ?_ ?_) | (with_reducible refine Le.loop (fun s => ?_) _ _) | (with_reducible refine Le.atO (fun e => ?_)) | split)
noncomputable def e_slices_partitionCmpFunc_int_rcm (n_ : Nat) : ((List Int) × Int × Int × Int × ((Option ((List (List Int)) × Unit)) × Unit) × Unit) → Option ((List Int) × Int × Bool × Unit) := fun (data_1, a_2, b_3, pivot_4, cmp_5, _) =>
  (idxN (data_1).length pivot_4).bind fun k6 =>
  ((atO data_1 k6 fun e7 => some e7)).bind fun y8 =>
  (idxN (data_1).length a_2).bind fun k9 =>
  ((atO data_1 k9 fun e10 => some e10)).bind fun y11 =>
  (idxN (data_1).length a_2).bind fun k12 =>
  ((atO data_1 k12 fun _ => some ((data_1).set k12 y8))).bind fun z14 =>
  (idxN (z14).length pivot_4).bind fun k15 =>
  ((atO z14 k15 fun _ => some ((z14).set k15 y11))).bind fun z17 =>
  (loopN (σ := (Int × (List Int) × Unit)) (ρ := (Int × (List Int) × Unit)) (fun (i_18, data_19, _) =>
  Option.bind (α := ((List Int) × Unit) ⊕ ((Int × (List Int) × Unit) ⊕ (Int × (List Int) × Unit))) (
  (bif ((decide (i_18 ≤ (IntKind.i64.wrap (b_3 - ((1) : Int))))) == true) then ((idxN (data_19).length i_18).bind fun k20 =>
  ((atO data_19 k20 fun e21 => some e21)).bind fun y22 =>
  (idxN (data_19).length a_2).bind fun k23 =>
  ((atO data_19 k23 fun e24 => some e24)).bind fun y25 =>
  (e_rcm_grow_1q_q0 n_ (y22, y25, cmp_5.1, ())).bind fun (r26, _) =>
  (bif (decide (r26 < ((0) : Int))) then (
  some (.inl (data_19, ()))) else (
  some (.inr (.inr (i_18, data_19, ())))))) else (some (.inr (.inr (i_18, data_19, ())))))) fun q => match q with
  | .inl (data_27, _) => (
  some (.inl ((IntKind.i64.wrap (i_18 + ((1) : Int))), data_27, ())))
  | .inr r => some r) n_ ((IntKind.i64.wrap (a_2 + ((1) : Int))), z17, ())).bind fun (i_28, data_29, _) =>
  (loopN (σ := (Int × (List Int) × Unit)) (ρ := (Int × (List Int) × Unit)) (fun (j_30, data_31, _) =>
  Option.bind (α := ((List Int) × Unit) ⊕ ((Int × (List Int) × Unit) ⊕ (Int × (List Int) × Unit))) (
  (bif ((decide (i_28 ≤ j_30)) == true) then ((idxN (data_31).length j_30).bind fun k32 =>
  ((atO data_31 k32 fun e33 => some e33)).bind fun y34 =>
  (idxN (data_31).length a_2).bind fun k35 =>
  ((atO data_31 k35 fun e36 => some e36)).bind fun y37 =>
  (e_rcm_grow_1q_q0 n_ (y34, y37, cmp_5.1, ())).bind fun (r38, _) =>
  (bif (!(decide (r38 < ((0) : Int)))) then (
  some (.inl (data_31, ()))) else (
  some (.inr (.inr (j_30, data_31, ())))))) else (some (.inr (.inr (j_30, data_31, ())))))) fun q => match q with
  | .inl (data_39, _) => (
  some (.inl ((IntKind.i64.wrap (j_30 - ((1) : Int))), data_39, ())))
  | .inr r => some r) n_ ((IntKind.i64.wrap (b_3 - ((1) : Int))), data_29, ())).bind fun (j_40, data_41, _) =>
  (bif (decide (i_28 > j_40)) then (
  (idxN (data_41).length a_2).bind fun k42 =>
  ((atO data_41 k42 fun e43 => some e43)).bind fun y44 =>
  (idxN (data_41).length j_40).bind fun k45 =>
  ((atO data_41 k45 fun e46 => some e46)).bind fun y47 =>
  (idxN (data_41).length j_40).bind fun k48 =>
  ((atO data_41 k48 fun _ => some ((data_41).set k48 y44))).bind fun z50 =>
  (idxN (z50).length a_2).bind fun k51 =>
  ((atO z50 k51 fun _ => some ((z50).set k51 y47))).bind fun z53 =>
  some (z53, j_40, true, ())) else (
  (idxN (data_41).length j_40).bind fun k54 =>
  ((atO data_41 k54 fun e55 => some e55)).bind fun y56 =>
  (idxN (data_41).length i_28).bind fun k57 =>
  ((atO data_41 k57 fun e58 => some e58)).bind fun y59 =>
  (idxN (data_41).length i_28).bind fun k60 =>
  ((atO data_41 k60 fun _ => some ((data_41).set k60 y56))).bind fun z62 =>
  (idxN (z62).length j_40).bind fun k63 =>
  ((atO z62 k63 fun _ => some ((z62).set k63 y59))).bind fun z65 =>
  (loopN (σ := (Int × Int × (List Int) × Unit)) (ρ := (Int × (List Int) × Unit)) (fun (i_66, j_67, data_68, _) =>
  (loopN (σ := (Int × (List Int) × Unit)) (ρ := (Int × (List Int) × Unit)) (fun (i_69, data_70, _) =>
  Option.bind (α := ((List Int) × Unit) ⊕ ((Int × (List Int) × Unit) ⊕ (Int × (List Int) × Unit))) (
  (bif ((decide (i_69 ≤ j_67)) == true) then ((idxN (data_70).length i_69).bind fun k71 =>
  ((atO data_70 k71 fun e72 => some e72)).bind fun y73 =>
  (idxN (data_70).length a_2).bind fun k74 =>
  ((atO data_70 k74 fun e75 => some e75)).bind fun y76 =>
  (e_rcm_grow_1q_q0 n_ (y73, y76, cmp_5.1, ())).bind fun (r77, _) =>
  (bif (decide (r77 < ((0) : Int))) then (
  some (.inl (data_70, ()))) else (
  some (.inr (.inr (i_69, data_70, ())))))) else (some (.inr (.inr (i_69, data_70, ())))))) fun q => match q with
  | .inl (data_78, _) => (
  some (.inl ((IntKind.i64.wrap (i_69 + ((1) : Int))), data_78, ())))
  | .inr r => some r) n_ (i_66, data_68, ())).bind fun (i_79, data_80, _) =>
  (loopN (σ := (Int × (List Int) × Unit)) (ρ := (Int × (List Int) × Unit)) (fun (j_81, data_82, _) =>
  Option.bind (α := ((List Int) × Unit) ⊕ ((Int × (List Int) × Unit) ⊕ (Int × (List Int) × Unit))) (
  (bif ((decide (i_79 ≤ j_81)) == true) then ((idxN (data_82).length j_81).bind fun k83 =>
  ((atO data_82 k83 fun e84 => some e84)).bind fun y85 =>
  (idxN (data_82).length a_2).bind fun k86 =>
  ((atO data_82 k86 fun e87 => some e87)).bind fun y88 =>
  (e_rcm_grow_1q_q0 n_ (y85, y88, cmp_5.1, ())).bind fun (r89, _) =>
  (bif (!(decide (r89 < ((0) : Int)))) then (
  some (.inl (data_82, ()))) else (
  some (.inr (.inr (j_81, data_82, ())))))) else (some (.inr (.inr (j_81, data_82, ())))))) fun q => match q with
  | .inl (data_90, _) => (
  some (.inl ((IntKind.i64.wrap (j_81 - ((1) : Int))), data_90, ())))
  | .inr r => some r) n_ (j_67, data_80, ())).bind fun (j_91, data_92, _) =>
  (bif (decide (i_79 > j_91)) then (
  some (.inr (j_91, data_92, ()))) else (
  (idxN (data_92).length j_91).bind fun k93 =>
  ((atO data_92 k93 fun e94 => some e94)).bind fun y95 =>
  (idxN (data_92).length i_79).bind fun k96 =>
  ((atO data_92 k96 fun e97 => some e97)).bind fun y98 =>
  (idxN (data_92).length i_79).bind fun k99 =>
  ((atO data_92 k99 fun _ => some ((data_92).set k99 y95))).bind fun z101 =>
  (idxN (z101).length j_91).bind fun k102 =>
  ((atO z101 k102 fun _ => some ((z101).set k102 y98))).bind fun z104 =>
  some (.inl ((IntKind.i64.wrap (i_79 + ((1) : Int))), (IntKind.i64.wrap (j_91 - ((1) : Int))), z104, ()))))) n_ ((IntKind.i64.wrap (i_28 + ((1) : Int))), (IntKind.i64.wrap (j_40 - ((1) : Int))), z65, ())).bind fun (j_105, data_106, _) =>
  (idxN (data_106).length a_2).bind fun k107 =>
  ((atO data_106 k107 fun e108 => some e108)).bind fun y109 =>
  (idxN (data_106).length j_105).bind fun k110 =>
  ((atO data_106 k110 fun e111 => some e111)).bind fun y112 =>
  (idxN (data_106).length j_105).bind fun k113 =>
  ((atO data_106 k113 fun _ => some ((data_106).set k113 y109))).bind fun z115 =>
  (idxN (z115).length a_2).bind fun k116 =>
  ((atO z115 k116 fun _ => some ((z115).set k116 y112))).bind fun z118 =>
  some (z118, j_105, false, ())))
set_option maxHeartbeats 4000000 in
theorem le_slices_partitionCmpFunc_int_rcm (n_ : Nat) (a : ((List Int) × Int × Int × Int × ((Option ((List (List Int)) × Unit)) × Unit) × Unit)) : Le (e_slices_partitionCmpFunc_int_rcm n_ a) (d_slices_partitionCmpFunc_int_rcm a) := by
  unfold e_slices_partitionCmpFunc_int_rcm d_slices_partitionCmpFunc_int_rcm
  repeat' (first | with_reducible exact Le.refl _ | with_reducible exact le_rcm_grow_1q_q0 _ _ | (with_reducible refine Le.bind ?_ (fun y => ?_)) | (with_reducible refine Le.bif ?_ ?_) | (with_reducible refine Le.loop (fun s => ?_) _ _) | (with_reducible refine Le.atO (fun e => ?_)) | split)
noncomputable def e_slices_pdqsortCmpFunc_int_rcmq_s (n_ : Nat) (f_ : ((List Int) × Int × Int × Int × ((Option ((List (List Int)) × Unit)) × Unit) × Unit) → Option ((List Int) × Unit)) : ((List Int) × Int × Int × Int × ((Option ((List (List Int)) × Unit)) × Unit) × Unit) → Option ((List Int) × Unit) := fun (data_1, a_2, b_3, limit_4, cmp_5, _) =>
  (loopN (σ := (Int × Int × Int × Bool × Bool × (List Int) × Unit)) (ρ := ((List Int) × Unit)) (fun (a_6, b_7, limit_8, wasBalanced_9, wasPartitioned_10, data_11, _) =>
  (bif (decide ((IntKind.i64.wrap (b_7 - a_6)) ≤ ((12) : Int))) then (
  (e_slices_insertionSortCmpFunc_int_rcm n_ (data_11, a_6, b_7, (cmp_5.1, ()), ())).bind fun (m12, _) =>
  some (.inr (m12, ()))) else (
  (bif (limit_8 == ((0) : Int)) then (
  (e_slices_heapSortCmpFunc_int_rcm n_ (data_11, a_6, b_7, (cmp_5.1, ()), ())).bind fun (m13, _) =>
  some (.inr (m13, ()))) else (
  Option.bind (α := (Int × (List Int) × Unit)) (
  (bif (!wasBalanced_9) then (
  (e_slices_breakPatternsCmpFunc_int_rcm n_ (data_11, a_6, b_7, (cmp_5.1, ()), ())).bind fun (m14, _) =>
  some ((IntKind.i64.wrap (limit_8 - ((1) : Int))), m14, ())) else (
  some (limit_8, data_11, ())))) fun (limit_15, data_16, _) =>
  (e_slices_choosePivotCmpFunc_int_rcm n_ (data_16, a_6, b_7, (cmp_5.1, ()), ())).bind fun (r17, r18, _) =>
  Option.bind (α := (Int × Int × (List Int) × Unit)) (
  (bif (r18 == ((2) : Int)) then (
  (e_slices_reverseRangeCmpFunc_int_rcm n_ (data_16, a_6, b_7, (cmp_5.1, ()), ())).bind fun (m19, _) =>
  some ((IntKind.i64.wrap ((IntKind.i64.wrap (b_7 - ((1) : Int))) - (IntKind.i64.wrap (r17 - a_6)))), ((1) : Int), m19, ())) else (
  some (r17, r18, data_16, ())))) fun (pivot_20, hint_21, data_22, _) =>
  Option.bind (α := ((List Int) × Unit) ⊕ ((Int × Int × Int × Bool × Bool × (List Int) × Unit) ⊕ ((List Int) × Unit))) (
  Option.bind (α := (Bool × (List Int) × Unit)) (
  (bif (wasBalanced_9 == true) then ((bif (wasPartitioned_10 == true) then (some ((hint_21 == ((1) : Int)), data_22, ())) else (some (false, data_22, ())))) else (some (false, data_22, ())))) fun (s_23, data_24, _) =>
  (bif s_23 then (
  (e_slices_partialInsertionSortCmpFunc_int_rcm n_ (data_24, a_6, b_7, (cmp_5.1, ()), ())).bind fun (m25, r26, _) =>
  (bif r26 then (
  some (.inr (.inr (m25, ())))) else (
  some (.inl (m25, ()))))) else (
  some (.inl (data_24, ()))))) fun q => match q with
  | .inl (data_27, _) => (
  Option.bind (α := (Int × (List Int) × Unit) ⊕ ((Int × Int × Int × Bool × Bool × (List Int) × Unit) ⊕ ((List Int) × Unit))) (
  Option.bind (α := (Bool × (List Int) × Unit)) (
  (bif ((decide (a_6 > ((0) : Int))) == true) then ((idxN (data_27).length (IntKind.i64.wrap (a_6 - ((1) : Int)))).bind fun k28 =>
  ((atO data_27 k28 fun e29 => some e29)).bind fun y30 =>
  (idxN (data_27).length pivot_20).bind fun k31 =>
  ((atO data_27 k31 fun e32 => some e32)).bind fun y33 =>
  (e_rcm_grow_1q_q0 n_ (y30, y33, cmp_5.1, ())).bind fun (r34, _) =>
  some ((!(decide (r34 < ((0) : Int)))), data_27, ())) else (some (false, data_27, ())))) fun (s_35, data_36, _) =>
  (bif s_35 then (
  (e_slices_partitionEqualCmpFunc_int_rcm n_ (data_36, a_6, b_7, pivot_20, (cmp_5.1, ()), ())).bind fun (m37, r38, _) =>
  some (.inr (.inl (r38, b_7, limit_15, wasBalanced_9, wasPartitioned_10, m37, ())))) else (
  some (.inl (a_6, data_36, ()))))) fun q => match q with
  | .inl (a_39, data_40, _) => (
  (e_slices_partitionCmpFunc_int_rcm n_ (data_40, a_39, b_7, pivot_20, (cmp_5.1, ()), ())).bind fun (m41, r42, r43, _) =>
  (quoO IntKind.i64 (IntKind.i64.wrap (b_7 - a_6)) ((8) : Int)).bind fun y44 =>
  (bif (decide ((IntKind.i64.wrap (r42 - a_39)) < (IntKind.i64.wrap (b_7 - r42)))) then (
  (f_ (m41, a_39, r42, limit_15, (cmp_5.1, ()), ())).bind fun (m45, _) =>
  some (.inl ((IntKind.i64.wrap (r42 + ((1) : Int))), b_7, limit_15, (decide ((IntKind.i64.wrap (r42 - a_39)) ≥ y44)), r43, m45, ()))) else (
  (f_ (m41, (IntKind.i64.wrap (r42 + ((1) : Int))), b_7, limit_15, (cmp_5.1, ()), ())).bind fun (m46, _) =>
  some (.inl (a_39, r42, limit_15, (decide ((IntKind.i64.wrap (b_7 - r42)) ≥ y44)), r43, m46, ())))))
  | .inr r => some r)
  | .inr r => some r))))) n_ (a_2, b_3, limit_4, true, true, data_1, ())).bind some
set_option maxHeartbeats 4000000 in
theorem le_slices_pdqsortCmpFunc_int_rcmq_s (n_ : Nat) (f_ fb_ : ((List Int) × Int × Int × Int × ((Option ((List (List Int)) × Unit)) × Unit) × Unit) → Option ((List Int) × Unit)) (h_ : ∀ a, Le (f_ a) (fb_ a)) (a : ((List Int) × Int × Int × Int × ((Option ((List (List Int)) × Unit)) × Unit) × Unit)) : Le (e_slices_pdqsortCmpFunc_int_rcmq_s n_ f_ a) (r_slices_pdqsortCmpFunc_int_rcmq_s fb_ a) := by
  unfold e_slices_pdqsortCmpFunc_int_rcmq_s r_slices_pdqsortCmpFunc_int_rcmq_s
  repeat' (first | with_reducible exact Le.refl _ | with_reducible exact le_rcm_grow_1q_q0 _ _ | with_reducible exact le_slices_insertionSortCmpFunc_int_rcm _ _ | with_reducible exact le_slices_heapSortCmpFunc_int_rcm _ _ | with_reducible exact le_slices_breakPatternsCmpFunc_int_rcm _ _ | with_reducible exact le_slices_choosePivotCmpFunc_int_rcm _ _ | with_reducible exact le_slices_reverseRangeCmpFunc_int_rcm _ _ | with_reducible exact le_slices_partialInsertionSortCmpFunc_int_rcm _ _ | with_reducible exact le_slices_partitionEqualCmpFunc_int_rcm _ _ | with_reducible exact le_slices_partitionCmpFunc_int_rcm _ _ | with_reducible exact h_ _ | (with_reducible refine Le.bind ?_ (fun y => ?_)) | (with_reducible refine Le.bif ?_ ?_) | (with_reducible refine Le.loop (fun s => ?_) _ _) | (with_reducible refine Le.atO (fun e => ?_)) | split)
noncomputable def e_slices_pdqsortCmpFunc_int_rcm (n_ : Nat) : ((List Int) × Int × Int × Int × ((Option ((List (List Int)) × Unit)) × Unit) × Unit) → Option ((List Int) × Unit) := deep (e_slices_pdqsortCmpFunc_int_rcmq_s n_) n_
theorem le_slices_pdqsortCmpFunc_int_rcm (n_ : Nat) (a : ((List Int) × Int × Int × Int × ((Option ((List (List Int)) × Unit)) × Unit) × Unit)) : Le (e_slices_pdqsortCmpFunc_int_rcm n_ a) (d_slices_pdqsortCmpFunc_int_rcm a) := Le.deep (le_slices_pdqsortCmpFunc_int_rcmq_s n_) r_slices_pdqsortCmpFunc_int_rcmq_mono n_ a
noncomputable def e_slices_SortFunc_int_int_rcm (n_ : Nat) : ((List Int) × ((Option ((List (List Int)) × Unit)) × Unit) × Unit) → Option ((List Int) × Unit) := fun (x_1, cmp_2, _) =>
  (e_math_bits_Len n_ ((IntKind.u64.wrap (((x_1).length : Nat) : Int)), ())).bind fun (r3, _) =>
  (e_slices_pdqsortCmpFunc_int_rcm n_ (x_1, ((0) : Int), (((x_1).length : Nat) : Int), r3, (cmp_2.1, ()), ())).bind fun (m4, _) =>
  some (m4, ())
set_option maxHeartbeats 4000000 in
theorem le_slices_SortFunc_int_int_rcm (n_ : Nat) (a : ((List Int) × ((Option ((List (List Int)) × Unit)) × Unit) × Unit)) : Le (e_slices_SortFunc_int_int_rcm n_ a) (d_slices_SortFunc_int_int_rcm a) := by
  unfold e_slices_SortFunc_int_int_rcm d_slices_SortFunc_int_int_rcm
  repeat' (first | with_reducible exact Le.refl _ | with_reducible exact le_slices_pdqsortCmpFunc_int_rcm _ _ | with_reducible exact le_math_bits_Len _ _ | (with_reducible refine Le.bind ?_ (fun y => ?_)) | (with_reducible refine Le.bif ?_ ?_) | (with_reducible refine Le.loop (fun s => ?_) _ _) | (with_reducible refine Le.atO (fun e => ?_)) | split)
noncomputable def e_rcm_grow (n_ : Nat) : (((List (List Int)) × Unit) × Int × (List Int) × (List Bool) × Unit) → Option ((List Bool) × (List Int) × Unit) := fun (g_1, start_2, order_3, placed_4, _) =>
  (limO ((order_3).length + ([start_2]).length)).bind fun _ =>
  (idxN (placed_4).length start_2).bind fun k15 =>
  ((atO placed_4 k15 fun _ => some ((placed_4).set k15 true))).bind fun z17 =>
  (loopN (σ := (Int × (List Int) × (List Bool) × Unit)) (ρ := ((List Int) × (List Bool) × Unit)) (fun (at_18, order_19, placed_20, _) =>
  (bif (decide (at_18 < (((order_19).length : Nat) : Int))) then (
  (idxN (order_19).length at_18).bind fun k21 =>
  ((atO order_19 k21 fun e22 => some e22)).bind fun y23 =>
  (getI g_1.1 y23).bind fun y24 =>
  (loopN (σ := (Int × (List Int) × (List Bool) × (List Int) × Unit)) (ρ := ((List Int) × (List Bool) × (List Int) × Unit)) (fun (s_25, order_26, placed_27, next_28, _) =>
  (bif (decide (s_25 < (((y24).length : Nat) : Int))) then (
  Option.bind (α := ((List Int) × (List Bool) × (List Int) × Unit)) (
  (getI y24 s_25).bind fun y29 =>
  (idxN (placed_27).length y29).bind fun k30 =>
  ((atO placed_27 k30 fun e31 => some e31)).bind fun y32 =>
  (bif (!y32) then (
  (idxN (placed_27).length y29).bind fun k33 =>
  ((atO placed_27 k33 fun _ => some ((placed_27).set k33 true))).bind fun z35 =>
  (limO ((next_28).length + ([y29]).length)).bind fun _ =>
  some (order_26, z35, (next_28 ++ [y29]), ())) else (
  some (order_26, placed_27, next_28, ())))) fun (order_36, placed_37, next_38, _) =>
  some (.inl ((IntKind.i64.wrap (s_25 + ((1) : Int))), order_36, placed_37, next_38, ()))) else (
  some (.inr (order_26, placed_27, next_28, ()))))) n_ (((0) : Int), order_19, placed_20, [], ())).bind fun (order_39, placed_40, next_41, _) =>
  (e_slices_SortFunc_int_int_rcm n_ (next_41, ((some g_1), ()), ())).bind fun (m42, _) =>
  (limO ((order_39).length + (m42).length)).bind fun _ =>
  some (.inl ((IntKind.i64.wrap (at_18 + ((1) : Int))), (order_39 ++ m42), placed_40, ()))) else (
  some (.inr (order_19, placed_20, ()))))) n_ ((((order_3).length : Nat) : Int), (order_3 ++ [start_2]), z17, ())).bind fun (order_43, placed_44, _) =>
  some (placed_44, order_43, ())
set_option maxHeartbeats 4000000 in
theorem le_rcm_grow (n_ : Nat) (a : (((List (List Int)) × Unit) × Int × (List Int) × (List Bool) × Unit)) : Le (e_rcm_grow n_ a) (d_rcm_grow a) := by
  unfold e_rcm_grow d_rcm_grow
  repeat' (first | with_reducible exact Le.refl _ | with_reducible exact le_slices_SortFunc_int_int_rcm _ _ | (with_reducible refine Le.bind ?_ (fun y => ?_)) | (with_reducible refine Le.bif ?_ ?_) | (with_reducible refine Le.loop (fun s => ?_) _ _) | (with_reducible refine Le.atO (fun e => ?_)) | split)
noncomputable def e_slices_Reverse_int_int (n_ : Nat) : ((List Int) × Unit) → Option ((List Int) × Unit) := fun (s_1, _) =>
  (loopN (σ := (Int × Int × (List Int) × Unit)) (ρ := ((List Int) × Unit)) (fun (i_2, j_3, s_4, _) =>
  (bif (decide (i_2 < j_3)) then (
  (idxN (s_4).length j_3).bind fun k5 =>
  ((atO s_4 k5 fun e6 => some e6)).bind fun y7 =>
  (idxN (s_4).length i_2).bind fun k8 =>
  ((atO s_4 k8 fun e9 => some e9)).bind fun y10 =>
  (idxN (s_4).length i_2).bind fun k11 =>
  ((atO s_4 k11 fun _ => some ((s_4).set k11 y7))).bind fun z13 =>
  (idxN (z13).length j_3).bind fun k14 =>
  ((atO z13 k14 fun _ => some ((z13).set k14 y10))).bind fun z16 =>
  some (.inl ((IntKind.i64.wrap (i_2 + ((1) : Int))), (IntKind.i64.wrap (j_3 - ((1) : Int))), z16, ()))) else (
  some (.inr (s_4, ()))))) n_ (((0) : Int), (IntKind.i64.wrap ((((s_1).length : Nat) : Int) - ((1) : Int))), s_1, ())).bind fun (s_17, _) =>
  some (s_17, ())
set_option maxHeartbeats 4000000 in
theorem le_slices_Reverse_int_int (n_ : Nat) (a : ((List Int) × Unit)) : Le (e_slices_Reverse_int_int n_ a) (d_slices_Reverse_int_int a) := by
  unfold e_slices_Reverse_int_int d_slices_Reverse_int_int
  repeat' (first | with_reducible exact Le.refl _  | (with_reducible refine Le.bind ?_ (fun y => ?_)) | (with_reducible refine Le.bif ?_ ?_) | (with_reducible refine Le.loop (fun s => ?_) _ _) | (with_reducible refine Le.atO (fun e => ?_)) | split)
noncomputable def e_rcm_Order (n_ : Nat) : (((List (List Int)) × Unit) × Unit) → Option ((List Int) × Int × Unit) := fun (g_1, _) =>
  (e_graph_Check n_ (g_1, ())).bind fun (r21, _) =>
  (bif (r21 != ((0) : Int)) then (
  some ([], r21, ())) else (
  (madeO (((g_1.1).length : Nat) : Int) (((g_1.1).length : Nat) : Int)).bind fun n22 =>
  (e_graph_Components n_ (g_1, ())).bind fun (r23, _) =>
  (loopN (σ := (Int × (List Int) × (List Bool) × (List (List Int)) × Unit)) (ρ := ((List Int) × Unit)) (fun (s_24, order_25, placed_26, s_27, _) =>
  (bif (decide (s_24 < (((r23).length : Nat) : Int))) then (
  (idxN (s_27).length s_24).bind fun k28 =>
  ((atO s_27 k28 fun e29 => some e29)).bind fun y30 =>
  (getI y30 ((0) : Int)).bind fun y31 =>
  (e_graph_Peripheral n_ (g_1, y31, ())).bind fun (r32, _) =>
  (e_rcm_grow n_ (g_1, r32, order_25, placed_26, ())).bind fun (m33, r34, _) =>
  some (.inl ((IntKind.i64.wrap (s_24 + ((1) : Int))), r34, m33, s_27, ()))) else (
  some (.inr (order_25, ()))))) n_ (((0) : Int), [], (List.replicate n22 false), r23, ())).bind fun (order_35, _) =>
  (e_slices_Reverse_int_int n_ (order_35, ())).bind fun (m36, _) =>
  some (m36, ((0) : Int), ())))
set_option maxHeartbeats 4000000 in
theorem le_rcm_Order (n_ : Nat) (a : (((List (List Int)) × Unit) × Unit)) : Le (e_rcm_Order n_ a) (d_rcm_Order a) := by
  unfold e_rcm_Order d_rcm_Order
  repeat' (first | with_reducible exact Le.refl _ | with_reducible exact le_graph_Components _ _ | with_reducible exact le_graph_Peripheral _ _ | with_reducible exact le_graph_Check _ _ | with_reducible exact le_rcm_grow _ _ | with_reducible exact le_slices_Reverse_int_int _ _ | (with_reducible refine Le.bind ?_ (fun y => ?_)) | (with_reducible refine Le.bif ?_ ?_) | (with_reducible refine Le.loop (fun s => ?_) _ _) | (with_reducible refine Le.atO (fun e => ?_)) | split)
noncomputable def e_graph_twice (n_ : Nat) : List Int × Unit → Option (Bool × Unit) := fun a => (twSem (fun l => (e_slices_Sort_int_int n_ (l, ())).map fun r => r.1) a.1).map fun b => (b, ())
theorem le_graph_twice (n_ : Nat) (a : List Int × Unit) : Le (e_graph_twice n_ a) (d_graph_twice a) := twSem_le (fun l => le_slices_Sort_int_int n_ (l, ())) a
noncomputable def e_graph_Permuted_1q_q0 (n_ : Nat) : (Int × (Option ((List (List Int)) × Unit)) × Unit) → Option (Bool × Unit) := fun (v_1, p_2, _) =>
  (p_2).bind fun y3 =>
  (e_graph_vertex n_ (y3, v_1, ())).bind fun (r4, _) =>
  some ((!r4), ())
set_option maxHeartbeats 4000000 in
theorem le_graph_Permuted_1q_q0 (n_ : Nat) (a : (Int × (Option ((List (List Int)) × Unit)) × Unit)) : Le (e_graph_Permuted_1q_q0 n_ a) (d_graph_Permuted_1q_q0 a) := by
  unfold e_graph_Permuted_1q_q0 d_graph_Permuted_1q_q0
  repeat' (first | with_reducible exact Le.refl _ | with_reducible exact le_graph_vertex _ _ | (with_reducible refine Le.bind ?_ (fun y => ?_)) | (with_reducible refine Le.bif ?_ ?_) | (with_reducible refine Le.loop (fun s => ?_) _ _) | (with_reducible refine Le.atO (fun e => ?_)) | split)
noncomputable def e_slices_IndexFunc_int_int_q0 (n_ : Nat) : ((List Int) × ((Option ((List (List Int)) × Unit)) × Unit) × Unit) → Option (Int × Unit) := fun (s_1, f_2, _) =>
  (loopN (σ := (Int × Unit)) (ρ := (Unit ⊕ (Int × Unit))) (fun (s_3, _) =>
  (bif (decide (s_3 < (((s_1).length : Nat) : Int))) then (
  (getI s_1 s_3).bind fun y4 =>
  (e_graph_Permuted_1q_q0 n_ (y4, f_2.1, ())).bind fun (r5, _) =>
  (bif r5 then (
  some (.inr (.inr (s_3, ())))) else (
  some (.inl ((IntKind.i64.wrap (s_3 + ((1) : Int))), ()))))) else (
  some (.inr (.inl ()))))) n_ (((0) : Int), ())).bind fun q => match q with
  | .inl _ => (
  some ((-1 : Int), ()))
  | .inr r => some r
set_option maxHeartbeats 4000000 in
theorem le_slices_IndexFunc_int_int_q0 (n_ : Nat) (a : ((List Int) × ((Option ((List (List Int)) × Unit)) × Unit) × Unit)) : Le (e_slices_IndexFunc_int_int_q0 n_ a) (d_slices_IndexFunc_int_int_q0 a) := by
  unfold e_slices_IndexFunc_int_int_q0 d_slices_IndexFunc_int_int_q0
  repeat' (first | with_reducible exact Le.refl _ | with_reducible exact le_graph_Permuted_1q_q0 _ _ | (with_reducible refine Le.bind ?_ (fun y => ?_)) | (with_reducible refine Le.bif ?_ ?_) | (with_reducible refine Le.loop (fun s => ?_) _ _) | (with_reducible refine Le.atO (fun e => ?_)) | split)
noncomputable def e_slices_ContainsFunc_int_int_q0 (n_ : Nat) : ((List Int) × ((Option ((List (List Int)) × Unit)) × Unit) × Unit) → Option (Bool × Unit) := fun (s_1, f_2, _) =>
  (e_slices_IndexFunc_int_int_q0 n_ (s_1, (f_2.1, ()), ())).bind fun (r3, _) =>
  some ((decide (r3 ≥ ((0) : Int))), ())
set_option maxHeartbeats 4000000 in
theorem le_slices_ContainsFunc_int_int_q0 (n_ : Nat) (a : ((List Int) × ((Option ((List (List Int)) × Unit)) × Unit) × Unit)) : Le (e_slices_ContainsFunc_int_int_q0 n_ a) (d_slices_ContainsFunc_int_int_q0 a) := by
  unfold e_slices_ContainsFunc_int_int_q0 d_slices_ContainsFunc_int_int_q0
  repeat' (first | with_reducible exact Le.refl _ | with_reducible exact le_slices_IndexFunc_int_int_q0 _ _ | (with_reducible refine Le.bind ?_ (fun y => ?_)) | (with_reducible refine Le.bif ?_ ?_) | (with_reducible refine Le.loop (fun s => ?_) _ _) | (with_reducible refine Le.atO (fun e => ?_)) | split)
noncomputable def e_graph_Permuted (n_ : Nat) : (((List (List Int)) × Unit) × (List Int) × Unit) → Option (Int × Unit) := fun (g_1, order_2, _) =>
  (e_graph_Check n_ (g_1, ())).bind fun (r3, _) =>
  (bif (r3 != ((0) : Int)) then (
  some (r3, ())) else (
  (bif ((((order_2).length : Nat) : Int) != (((g_1.1).length : Nat) : Int)) then (
  some (((2) : Int), ())) else (
  (e_slices_ContainsFunc_int_int_q0 n_ (order_2, ((some g_1), ()), ())).bind fun (r4, _) =>
  (bif (r4 == false) then ((e_graph_twice n_ (order_2, ())).bind fun (r5, _) =>
  (bif r5 then (
  some (((90) : Int), ())) else (
  some (((0) : Int), ())))) else (some (((90) : Int), ())))))))
set_option maxHeartbeats 4000000 in
theorem le_graph_Permuted (n_ : Nat) (a : (((List (List Int)) × Unit) × (List Int) × Unit)) : Le (e_graph_Permuted n_ a) (d_graph_Permuted a) := by
  unfold e_graph_Permuted d_graph_Permuted
  repeat' (first | with_reducible exact Le.refl _ | with_reducible exact le_slices_ContainsFunc_int_int_q0 _ _ | with_reducible exact le_graph_Check _ _ | with_reducible exact le_graph_twice _ _ | (with_reducible refine Le.bind ?_ (fun y => ?_)) | (with_reducible refine Le.bif ?_ ?_) | (with_reducible refine Le.loop (fun s => ?_) _ _) | (with_reducible refine Le.atO (fun e => ?_)) | split)
noncomputable def e_rcm_positions (n_ : Nat) : ((List Int) × Unit) → Option ((List Int) × Unit) := fun (order_1, _) =>
  (madeO (((order_1).length : Nat) : Int) (((order_1).length : Nat) : Int)).bind fun n2 =>
  (loopN (σ := (Int × (List Int) × Unit)) (ρ := ((List Int) × Unit)) (fun (s_3, out_4, _) =>
  (bif (decide (s_3 < (((order_1).length : Nat) : Int))) then (
  (getI order_1 s_3).bind fun y5 =>
  (idxN (out_4).length y5).bind fun k6 =>
  ((atO out_4 k6 fun _ => some ((out_4).set k6 s_3))).bind fun z8 =>
  some (.inl ((IntKind.i64.wrap (s_3 + ((1) : Int))), z8, ()))) else (
  some (.inr (out_4, ()))))) n_ (((0) : Int), (List.replicate n2 (0 : Int)), ())).bind fun (out_9, _) =>
  some (out_9, ())
set_option maxHeartbeats 4000000 in
theorem le_rcm_positions (n_ : Nat) (a : ((List Int) × Unit)) : Le (e_rcm_positions n_ a) (d_rcm_positions a) := by
  unfold e_rcm_positions d_rcm_positions
  repeat' (first | with_reducible exact Le.refl _  | (with_reducible refine Le.bind ?_ (fun y => ?_)) | (with_reducible refine Le.bif ?_ ?_) | (with_reducible refine Le.loop (fun s => ?_) _ _) | (with_reducible refine Le.atO (fun e => ?_)) | split)
noncomputable def e_rcm_Bandwidth (n_ : Nat) : (((List (List Int)) × Unit) × (List Int) × Unit) → Option (Int × Int × Unit) := fun (g_1, order_2, _) =>
  (e_graph_Permuted n_ (g_1, order_2, ())).bind fun (r3, _) =>
  (bif (r3 != ((0) : Int)) then (
  some (((0) : Int), r3, ())) else (
  (e_rcm_positions n_ (order_2, ())).bind fun (r4, _) =>
  (loopN (σ := (Int × Int × Unit)) (ρ := (Int × Unit)) (fun (width_5, s_6, _) =>
  (bif (decide (s_6 < (((g_1.1).length : Nat) : Int))) then (
  (getI g_1.1 s_6).bind fun y7 =>
  (loopN (σ := (Int × Int × Unit)) (ρ := (Int × Unit)) (fun (width_8, s_9, _) =>
  (bif (decide (s_9 < (((y7).length : Nat) : Int))) then (
  (getI y7 s_9).bind fun y10 =>
  (getI r4 s_6).bind fun y11 =>
  (getI r4 y10).bind fun y12 =>
  some (.inl ((if (IntKind.i64.wrap (y11 - y12)) > width_8 then (IntKind.i64.wrap (y11 - y12)) else width_8), (IntKind.i64.wrap (s_9 + ((1) : Int))), ()))) else (
  some (.inr (width_8, ()))))) n_ (width_5, ((0) : Int), ())).bind fun (width_13, _) =>
  some (.inl (width_13, (IntKind.i64.wrap (s_6 + ((1) : Int))), ()))) else (
  some (.inr (width_5, ()))))) n_ (((0) : Int), ((0) : Int), ())).bind fun (width_14, _) =>
  some (width_14, ((0) : Int), ())))
set_option maxHeartbeats 4000000 in
theorem le_rcm_Bandwidth (n_ : Nat) (a : (((List (List Int)) × Unit) × (List Int) × Unit)) : Le (e_rcm_Bandwidth n_ a) (d_rcm_Bandwidth a) := by
  unfold e_rcm_Bandwidth d_rcm_Bandwidth
  repeat' (first | with_reducible exact Le.refl _ | with_reducible exact le_graph_Permuted _ _ | with_reducible exact le_rcm_positions _ _ | (with_reducible refine Le.bind ?_ (fun y => ?_)) | (with_reducible refine Le.bif ?_ ?_) | (with_reducible refine Le.loop (fun s => ?_) _ _) | (with_reducible refine Le.atO (fun e => ?_)) | split)
noncomputable def e_sparselaw17q_awake (n_ : Nat) : Unit → Option (Bool × Unit) := fun _ =>
  (e_rcm_Order n_ (([[((1) : Int)], [((0) : Int), ((2) : Int)], [((1) : Int)]], ()), ())).bind fun (r1, r2, _) =>
  (e_rcm_Bandwidth n_ (([[((1) : Int)], [((0) : Int), ((2) : Int)], [((1) : Int)]], ()), [((0) : Int), ((2) : Int), ((1) : Int)], ())).bind fun (r3, r4, _) =>
  (bif ((r2 == ((0) : Int)) == true) then ((bif ((r4 == ((0) : Int)) == true) then ((e_sparsekit_Ints n_ (r1, [((2) : Int), ((1) : Int), ((0) : Int)], ())).bind fun (r5, _) =>
  (bif (r5 == true) then (some ((r3 == ((2) : Int)), ())) else (some (false, ())))) else (some (false, ())))) else (some (false, ())))
set_option maxHeartbeats 4000000 in
theorem le_sparselaw17q_awake (n_ : Nat) (a : Unit) : Le (e_sparselaw17q_awake n_ a) (d_sparselaw17q_awake a) := by
  unfold e_sparselaw17q_awake d_sparselaw17q_awake
  repeat' (first | with_reducible exact Le.refl _ | with_reducible exact le_rcm_Order _ _ | with_reducible exact le_rcm_Bandwidth _ _ | with_reducible exact le_sparsekit_Ints _ _ | (with_reducible refine Le.bind ?_ (fun y => ?_)) | (with_reducible refine Le.bif ?_ ?_) | (with_reducible refine Le.loop (fun s => ?_) _ _) | (with_reducible refine Le.atO (fun e => ?_)) | split)
theorem awake17 : d_sparselaw17q_awake () = some (true, ()) := le_sparselaw17q_awake 20 () _ (by decide +kernel)
end Go.Fw
end
