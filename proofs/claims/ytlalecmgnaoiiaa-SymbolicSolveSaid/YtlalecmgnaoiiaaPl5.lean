/-
  The plain laws, part 5: the check of a graph.
-/
import Derived.Test.YtlalecmgnaoiiaaPl3
set_option linter.unusedSimpArgs false
set_option linter.unusedVariables false
namespace Go.Fw

/-- Strictly ascending, each element from 0 to n - 1. -/
def AscIn (l : List Int) (n : Int) : Prop := l.Pairwise (· < ·) ∧ ∀ x ∈ l, 0 ≤ x ∧ x < n

/-- The rule for loops that count up, where the number is found by a function. -/
theorem Ok.count {σ ρ : Type} {f : σ → Option (σ ⊕ ρ)} {Q : ρ → Prop} (ix : σ → Int) (n : Nat) (I : Nat → σ → Prop) {i0 : Nat} {s0 : σ} (hix : ix s0 = (i0 : Int)) (h0 : I i0 s0) (hi : i0 ≤ n)
    (hstep : ∀ i s, i0 ≤ i → i < n → ix s = (i : Int) → I i s → Ok (f s) (fun | .inl s' => ix s' = ((i + 1 : Nat) : Int) ∧ I (i + 1) s' | .inr r => Q r))
    (hend : ∀ s, ix s = (n : Int) → I n s → Ok (f s) (fun | .inl _ => False | .inr r => Q r)) : Ok (Fw.loop f s0) Q := by
  refine Ok.loop (fun s => ∃ i : Nat, i0 ≤ i ∧ i ≤ n ∧ ix s = (i : Int) ∧ I i s) (fun s => n - (ix s).toNat) ⟨i0, Nat.le_refl _, hi, hix, h0⟩ ?_
  rintro s ⟨i, hl, hi, e, ht⟩
  rcases Nat.lt_or_ge i n with h | h
  · refine (hstep i s hl h e ht).mono ?_
    rintro (s' | r) hy
    · obtain ⟨e', h2⟩ := hy
      exact ⟨⟨i + 1, by omega, by omega, e', h2⟩, by rw [e, e']; simp; omega⟩
    · exact hy
  · obtain rfl : i = n := by omega
    refine (hend s e ht).mono ?_
    rintro (s' | r) hy
    · exact hy.elim
    · exact hy

open Classical in
theorem ascending_eq (l : List Int) (n : Int) (hl : l.length < 4611686018427387904) : d_graph_ascending (l, n, ()) = some (decide (AscIn l n), ()) := by
  rw [← Ok.eq_iff]
  unfold d_graph_ascending
  simp only [Ok.bind_iff]
  refine Ok.count (fun s => s.2.1) l.length (fun i s => s.1 = (if i = 0 then -1 else l.getD (i - 1) 0) ∧ (l.take i).Pairwise (· < ·) ∧ ∀ x ∈ l.take i, 0 ≤ x ∧ x < n) (i0 := 0) rfl ⟨rfl, by simp, by simp⟩ (Nat.zero_le _) ?_ ?_
  · rintro i ⟨last, j, _⟩ _ hi e ⟨h1, h2, h3⟩
    simp only at e h1
    subst e
    simp only [Ok.bif_iff, Ok.bind_iff, Ok.some_iff, Ok.getN_iff]
    -- what is before is less than the last one, which is at least -1
    have hlast : ∀ x ∈ l.take i, x ≤ last := by
      intro x hx
      rw [h1]
      obtain ⟨k, hk, rfl⟩ := List.mem_iff_getElem.1 hx
      simp only [List.length_take] at hk
      have hi0 : i ≠ 0 := by omega
      rw [if_neg hi0]
      simp only [List.getElem_take, List.getD, List.getElem?_eq_getElem (show i - 1 < l.length by omega), Option.getD_some]
      rcases Nat.lt_or_ge k (i - 1) with h | h
      · have := (List.pairwise_iff_getElem.1 h2) k (i - 1) (by simp; omega) (by simp; omega) h
        simp only [List.getElem_take] at this
        omega
      · have : k = i - 1 := by omega
        subst this; exact Int.le_refl _
    have hm1 : -1 ≤ last := by
      rw [h1]
      by_cases h0 : i = 0
      · rw [if_pos h0]; exact Int.le_refl _
      · rw [if_neg h0]
        simp only [List.getD, List.getElem?_eq_getElem (show i - 1 < l.length by omega), Option.getD_some]
        have := h3 (l[i - 1]) (List.mem_iff_getElem.2 ⟨i - 1, by simp; omega, by simp⟩)
        omega
    have hbad : (l[i] ≤ last ∨ n ≤ l[i]) → ¬ AscIn l n := by
      rintro h ⟨p1, p2⟩
      rcases h with h | h
      · rw [h1] at h
        by_cases h0 : i = 0
        · rw [if_pos h0] at h
          have := p2 _ (List.getElem_mem hi); omega
        · rw [if_neg h0] at h
          simp only [List.getD, List.getElem?_eq_getElem (show i - 1 < l.length by omega), Option.getD_some] at h
          have := (List.pairwise_iff_getElem.1 p1) (i - 1) i (by omega) hi (by omega)
          omega
      · have := p2 _ (List.getElem_mem hi); omega
    refine ⟨fun _ => ⟨hi, fun g1 => ⟨fun g2 => ?_, fun g2 => ?_⟩, fun g1 => ?_⟩, fun hf => by simp at hf; omega⟩
    · have := hbad (.inr (by simpa using g2))
      simp [this]
    · simp at g1 g2
      refine ⟨wrap_succ (by omega), ?_, ?_, ?_⟩
      · simp [List.getD, hi]
      · rw [← take_snoc hi, List.pairwise_append]
        refine ⟨h2, by simp, fun a ha b hb => ?_⟩
        simp only [List.mem_singleton] at hb
        subst hb
        have := hlast a ha; omega
      · rw [← take_snoc hi]
        intro x hx
        rcases List.mem_append.1 hx with hx | hx
        · exact h3 x hx
        · simp only [List.mem_singleton] at hx
          subst hx
          omega
    · have := hbad (.inl (by simpa using g1))
      simp [this]
  · rintro ⟨last, j, _⟩ e ⟨h1, h2, h3⟩
    simp only at e
    subst e
    simp only [Ok.bif_iff, Ok.some_iff]
    refine ⟨fun hf => by simp at hf, fun _ => ?_⟩
    rw [List.take_length] at h2 h3
    have : AscIn l n := ⟨h2, h3⟩
    simp [this]

theorem Less_eq (x y : Int) : d_cmp_Less_int (x, y, ()) = some (decide (x < y), ()) := by
  unfold d_cmp_Less_int d_cmp_isNaN_int
  simp

theorem wrapUq_eq (x : Int) (h1 : 0 ≤ x) (h2 : x < 18446744073709551616) : IntKind.u64.wrap x = x := by
  unfold IntKind.wrap
  rw [if_neg (by simp [IntKind.signed])]
  show x % 18446744073709551616 = x
  omega

/-- Found by halving. -/
theorem BinarySearch_eq (l : List Int) (v : Int) (hl : l.length < 4611686018427387904) (hp : l.Pairwise (· < ·)) : Ok (d_slices_BinarySearch_int_int (l, v, ())) (fun r => r.2.1 = decide (v ∈ l)) := by
  unfold d_slices_BinarySearch_int_int
  simp only [Ok.bind_iff]
  refine Ok.mono (P := fun q => ∃ i : Nat, q.1 = (i : Int) ∧ i ≤ l.length ∧ (∀ k, (h : k < l.length) → k < i → l[k] < v) ∧ (∀ k, (h : k < l.length) → i ≤ k → v ≤ l[k])) ?_ ?_
  · refine Ok.loop (fun s => ∃ i j : Nat, s.1 = (i : Int) ∧ s.2.1 = (j : Int) ∧ i ≤ j ∧ j ≤ l.length ∧ (∀ k, (h : k < l.length) → k < i → l[k] < v) ∧ (∀ k, (h : k < l.length) → j ≤ k → v ≤ l[k])) (fun s => (s.2.1 - s.1).toNat) ⟨0, l.length, rfl, rfl, Nat.zero_le _, Nat.le_refl _, fun k _ h => by omega, fun k h1 h2 => by omega⟩ ?_
    rintro ⟨i', j', _⟩ ⟨i, j, rfl, rfl, hij, hj, h1, h2⟩
    simp only [Ok.bif_iff, Ok.bind_iff, Ok.some_iff]
    refine ⟨fun hlt => ?_, fun hge => ?_⟩
    · have hlt : i < j := by simpa using hlt
      have e1 : IntKind.i64.wrap ((i : Int) + j) = (i : Int) + j := wrap64 (by omega) (by omega)
      rw [e1, wrapUq_eq _ (by omega) (by omega)]
      have hs : shrO IntKind.u64 ((i : Int) + j) 1 = some (((i + j) / 2 : Nat) : Int) := by
        unfold shrO
        rw [if_pos (by omega)]
        congr 1
        show ((i : Int) + j).fdiv (2 ^ min 1 64) = _
        rw [show (2 : Int) ^ min 1 64 = 2 from rfl, Int.fdiv_eq_ediv_of_nonneg _ (by omega)]
        omega
      rw [hs]
      simp only [Ok.some_iff]
      have e2 : IntKind.i64.wrap (((i + j) / 2 : Nat) : Int) = (((i + j) / 2 : Nat) : Int) := wrap64 (by omega) (by omega)
      rw [e2, Ok.getN_iff]
      refine ⟨by omega, ?_⟩
      rw [Less_eq]
      simp only [Ok.some_iff, Ok.bif_iff]
      have hh : (i + j) / 2 < l.length := by omega
      refine ⟨fun hlv => ?_, fun hlv => ?_⟩
      · have hlv : l[(i + j) / 2] < v := by simpa using hlv
        rw [wrap_succ (by omega)]
        refine ⟨⟨(i + j) / 2 + 1, j, rfl, rfl, by omega, hj, fun k hk hki => ?_, h2⟩, by omega⟩
        rcases Nat.lt_or_ge k ((i + j) / 2) with h | h
        · exact Int.lt_trans ((List.pairwise_iff_getElem.1 hp) k _ hk hh h) hlv
        · have : k = (i + j) / 2 := by omega
          subst this; exact hlv
      · have hlv : v ≤ l[(i + j) / 2] := by simpa using hlv
        refine ⟨⟨i, (i + j) / 2, rfl, rfl, by omega, by omega, h1, fun k hk hki => ?_⟩, by omega⟩
        rcases Nat.lt_or_ge ((i + j) / 2) k with h | h
        · have := (List.pairwise_iff_getElem.1 hp) _ k hh hk h; omega
        · have : k = (i + j) / 2 := by omega
          subst this; exact hlv
    · have hij' : i = j := by have : ¬ i < j := by simpa using hge
                              omega
      subst hij'
      exact ⟨i, rfl, hj, h1, h2⟩
  · rintro ⟨i', _⟩ ⟨i, rfl, hi, h1, h2⟩
    simp only
    have hno : (∀ h : i < l.length, l[i] ≠ v) → v ∉ l := by
      intro hne hm
      obtain ⟨k, hk, rfl⟩ := List.mem_iff_getElem.1 hm
      rcases Nat.lt_trichotomy k i with h | h | h
      · have := h1 k hk h; omega
      · subst h; exact hne hk rfl
      · have a1 := h2 i (by omega) (Nat.le_refl _)
        have a2 := (List.pairwise_iff_getElem.1 hp) i k (by omega) hk h
        omega
    simp only [Ok.bif_iff, Ok.bind_iff, Ok.some_iff, Ok.getN_iff]
    refine ⟨fun hlt => ?_, fun hge => ?_⟩
    · have hlt : i < l.length := by simpa using hlt
      refine ⟨hlt, fun hne => ?_, fun heq => ?_⟩
      · have hne : l[i] ≠ v := by simpa using hne
        refine ⟨hlt, ?_⟩
        unfold d_slices_isNaN_int
        simp [Ok.some_iff]
        exact hno (fun _ => hne)
      · have heq : l[i] = v := by simpa using heq
        simp [← heq]
    · have hge : ¬ i < l.length := by simpa using hge
      simp
      exact hno (fun h => absurd h hge)

/-- A valid graph. -/
structure Valid (adj : List (List Int)) : Prop where
  asc : ∀ v, (h : v < adj.length) → AscIn adj[v] adj.length
  irr : ∀ v, (h : v < adj.length) → (v : Int) ∉ adj[v]
  sym : ∀ v, (h : v < adj.length) → ∀ w : Nat, (hw : w < adj.length) → (w : Int) ∈ adj[v] → (v : Int) ∈ adj[w]

open Classical in
noncomputable def chk (adj : List (List Int)) : Int := if 200 < adj.length then 6 else if Valid adj then 0 else 1

open Classical in
theorem joined_eq (adj : List (List Int)) (v : Nat) (w : Int) (hv : v < adj.length) (hl : adj[v].length < 4611686018427387904) (hp : adj[v].Pairwise (· < ·)) : d_graph_joined ((adj, ()), (v : Int), w, ()) = some (decide (w ∈ adj[v]), ()) := by
  rw [← Ok.eq_iff]
  unfold d_graph_joined
  simp only [Ok.bind_iff, Ok.getN_iff]
  refine ⟨hv, (BinarySearch_eq _ _ hl hp).mono ?_⟩
  rintro ⟨i, b, _⟩ h
  simp only at h
  rw [Ok.some_iff, h]

theorem Check_eq (adj : List (List Int)) (hc : ∀ l ∈ adj, l.length < 4611686018427387904) : d_graph_Check ((adj, ()), ()) = some (chk adj, ()) := by
  classical
  rw [← Ok.eq_iff]
  unfold d_graph_Check
  simp only [Ok.bif_iff, Ok.bind_iff, Ok.some_iff]
  refine ⟨fun h => ?_, fun h => ?_⟩
  · have : 200 < adj.length := by simp at h; omega
    simp [chk, this]
  have hn : ¬ 200 < adj.length := by simp at h; omega
  have hbad : ¬ Valid adj → (1 : Int) = chk adj := fun h => by simp [chk, hn, h]
  refine Ok.mono (P := fun q => (q = .inr (1, ()) ∧ ¬ Valid adj) ∨ (q = .inl () ∧ ∀ k, (h : k < adj.length) → AscIn adj[k] adj.length ∧ (k : Int) ∉ adj[k])) ?_ ?_
  · refine Ok.for (i0 := 0) adj.length (fun i _ => ∀ k, k < i → (h : k < adj.length) → AscIn adj[k] adj.length ∧ (k : Int) ∉ adj[k]) rfl (fun k hk => by omega) (Nat.zero_le _) ?_ ?_
    · rintro i _ _ hi hI
      simp only [Ok.bif_iff, Ok.bind_iff, Ok.some_iff, Ok.getN_iff]
      refine ⟨fun _ => ⟨hi, ?_⟩, fun hf => by simp at hf; omega⟩
      rw [ascending_eq _ _ (hc _ (List.getElem_mem hi))]
      simp only [Ok.some_iff]
      refine ⟨fun ha => ?_, fun ha => .inl ⟨trivial, fun hv => ?_⟩⟩
      · have ha : AscIn adj[i] adj.length := by simpa using ha
        rw [joined_eq adj i i hi (hc _ (List.getElem_mem hi)) ha.1]
        simp only [Ok.some_iff, Ok.bif_iff]
        refine ⟨fun hj => .inl ⟨trivial, fun hv => hv.irr i hi (by simpa using hj)⟩, fun hj => ⟨wrap_succ (by omega), fun k hk hkl => ?_⟩⟩
        rcases Nat.lt_or_ge k i with h2 | h2
        · exact hI k h2 hkl
        · obtain rfl : k = i := by omega
          exact ⟨ha, by simpa using hj⟩
      · have := hv.asc i hi
        simp [this] at ha
    · intro t hI
      simp only [Ok.bif_iff, Ok.some_iff]
      exact ⟨fun hf => by simp at hf, fun _ => .inr ⟨trivial, fun k hk => hI k hk hk⟩⟩
  · rintro q (⟨rfl, hv⟩ | ⟨rfl, hA⟩)
    · simp only [Ok.some_iff, hbad hv]
    simp only [Ok.bind_iff]
    have hsym : (∀ v, (h : v < adj.length) → ∀ x ∈ adj[v], ∀ w : Nat, x = (w : Int) → (hw : w < adj.length) → (v : Int) ∈ adj[w]) → Valid adj := fun h => ⟨fun v hv => (hA v hv).1, fun v hv => (hA v hv).2, fun v hv w hw hm => h v hv w hm w rfl hw⟩
    refine Ok.mono (P := fun q => (q = .inr (1, ()) ∧ ¬ Valid adj) ∨ (q = .inl () ∧ ∀ v, (h : v < adj.length) → ∀ x ∈ adj[v], ∀ w : Nat, x = (w : Int) → (hw : w < adj.length) → (v : Int) ∈ adj[w])) ?_ ?_
    · refine Ok.for (i0 := 0) adj.length (fun i _ => ∀ v, v < i → (h : v < adj.length) → ∀ x ∈ adj[v], ∀ w : Nat, x = (w : Int) → (hw : w < adj.length) → (v : Int) ∈ adj[w]) rfl (fun k hk => by omega) (Nat.zero_le _) ?_ ?_
      · rintro i _ _ hi hI
        simp only [Ok.bif_iff, Ok.bind_iff, Ok.getN_iff]
        refine ⟨fun _ => ⟨hi, ?_⟩, fun hf => by simp at hf; omega⟩
        have hli := hc _ (List.getElem_mem hi)
        refine Ok.mono (P := fun q => (q = .inr (.inr (.inr (1, ()))) ∧ ¬ Valid adj) ∨ (q = .inl () ∧ ∀ x ∈ adj[i], ∀ w : Nat, x = (w : Int) → (hw : w < adj.length) → (i : Int) ∈ adj[w])) ?_ ?_
        · refine Ok.for (i0 := 0) adj[i].length (fun k _ => ∀ m, m < k → (h : m < adj[i].length) → ∀ w : Nat, adj[i][m] = (w : Int) → (hw : w < adj.length) → (i : Int) ∈ adj[w]) rfl (fun k hk => by omega) (Nat.zero_le _) ?_ ?_
          · rintro k _ _ hk hK
            simp only [Ok.bif_iff, Ok.bind_iff, Ok.getN_iff]
            refine ⟨fun _ => ⟨hk, ?_⟩, fun hf => by simp at hf; omega⟩
            have hr := (hA i hi).1.2 _ (List.getElem_mem hk)
            obtain ⟨w, hw⟩ : ∃ w : Nat, adj[i][k] = (w : Int) := ⟨adj[i][k].toNat, by omega⟩
            have hwl : w < adj.length := by omega
            rw [hw, joined_eq adj w i hwl (hc _ (List.getElem_mem hwl)) (hA w hwl).1.1]
            simp only [Ok.some_iff, Ok.bif_iff]
            refine ⟨fun hno => .inl ⟨trivial, fun hv => ?_⟩, fun hyes => ⟨wrap_succ (by omega), fun m hm hml w' hw' hw'l => ?_⟩⟩
            · have := hv.sym i hi w hwl (hw ▸ List.getElem_mem hk)
              simp [this] at hno
            · rcases Nat.lt_or_ge m k with h2 | h2
              · exact hK m h2 hml w' hw' hw'l
              · obtain rfl : m = k := by omega
                have : w' = w := by omega
                subst this
                simpa using hyes
          · intro t hK
            simp only [Ok.bif_iff, Ok.some_iff]
            refine ⟨fun hf => by simp at hf, fun _ => .inr ⟨trivial, fun x hx w hw hwl => ?_⟩⟩
            obtain ⟨m, hm, rfl⟩ := List.mem_iff_getElem.1 hx
            exact hK m hm hm w hw hwl
        · rintro q (⟨rfl, hv⟩ | ⟨rfl, hX⟩)
          · simp only [Ok.some_iff]
            exact .inl ⟨trivial, hv⟩
          · simp only [Ok.some_iff]
            refine ⟨wrap_succ (by omega), fun v hv hvl => ?_⟩
            rcases Nat.lt_or_ge v i with h2 | h2
            · exact hI v h2 hvl
            · obtain rfl : v = i := by omega
              exact hX
      · intro t hI
        simp only [Ok.bif_iff, Ok.some_iff]
        exact ⟨fun hf => by simp at hf, fun _ => .inr ⟨trivial, fun k hk => hI k hk hk⟩⟩
    · rintro q (⟨rfl, hv⟩ | ⟨rfl, hX⟩)
      · simp only [Ok.some_iff, hbad hv]
      · simp only [Ok.some_iff]
        simp [chk, hn, hsym hX]
end Go.Fw
