/-
  The plain laws, part 7: Parent returns the elimination forest.
-/
import Derived.Test.YtlalecmgnaoiiaaPl6
namespace Go.Fw

theorem set_replicate (n i : Nat) (l : List Int) (x : Int) (hl : l = List.replicate i x ++ List.replicate (n - i) 0) (hi : i < n) : l.set i x = List.replicate (i + 1) x ++ List.replicate (n - (i + 1)) 0 := by
  subst hl
  apply List.ext_getElem?
  intro k
  rw [List.getElem?_set]
  simp only [List.length_append, List.length_replicate, List.getElem?_append, List.getElem?_replicate]
  split
  · rename_i h; subst h; rw [if_pos (by omega), if_pos (by omega)]
    split <;> first | rfl | omega
  · by_cases h1 : k < i
    · rw [if_pos h1, if_pos h1, if_pos (show k < i + 1 by omega), if_pos (show k < i + 1 by omega)]
    · rw [if_neg h1, if_neg (show ¬ k < i + 1 by omega)]
      by_cases h2 : k - i < n - i
      · rw [if_pos h2, if_pos (show k - (i + 1) < n - (i + 1) by omega)]
      · rw [if_neg h2, if_neg (show ¬ k - (i + 1) < n - (i + 1) by omega)]

theorem newForest_eq (n : Nat) (hn : n ≤ 200) : d_etree_newForest ((n : Int), ()) = some ((List.replicate n (-1), (List.replicate n (-1), ())), ()) := by
  rw [← Ok.eq_iff]
  unfold d_etree_newForest
  have hlim : lim = 4294967296 := rfl
  simp only [Ok.bind_iff, Ok.madeO_iff, Ok.some_iff, Int.toNat_natCast]
  refine ⟨⟨by omega, by omega, by omega⟩, ⟨by omega, by omega, by omega⟩, ?_⟩
  refine Ok.for (i0 := 0) n (fun i t => t.1.1 = List.replicate i (-1) ++ List.replicate (n - i) 0 ∧ t.1.2.1 = List.replicate i (-1) ++ List.replicate (n - i) 0) rfl ⟨by simp, by simp⟩ (Nat.zero_le _) ?_ ?_
  · rintro i ⟨⟨p, a, _⟩, _⟩ _ hi ⟨h1, h2⟩
    simp only at h1 h2
    have l1 : p.length = n := by rw [h1]; simp; omega
    have l2 : a.length = n := by rw [h2]; simp; omega
    simp only [Ok.bif_iff, Ok.bind_iff, Ok.some_iff, Ok.idxN_iff, Ok.atO_iff, Ok.map_iff, Int.toNat_natCast]
    exact ⟨fun _ => ⟨⟨by omega, by omega⟩, by omega, ⟨by omega, by omega⟩, by omega, wrap_succ (by omega), set_replicate n i p _ h1 hi, set_replicate n i a _ h2 hi⟩, fun hf => by simp at hf; omega⟩
  · rintro ⟨⟨p, a, _⟩, _⟩ ⟨h1, h2⟩
    simp only at h1 h2
    simp only [Ok.bif_iff, Ok.some_iff]
    refine ⟨fun hf => by simp at hf, fun _ => ?_⟩
    rw [h1, h2]; simp

/-- A list of parents. -/
structure Forest (adj : List (List Int)) (par : List Int) : Prop where
  len : par.length = adj.length
  parI : ∀ u p : Nat, par[u]? = some (p : Int) ↔ IsPar (Nb adj) u p
  none : ∀ (u : Nat) (x : Int), par[u]? = some x → x = -1 ∨ ∃ p : Nat, x = (p : Int)

theorem stage_zero (adj : List (List Int)) : Stage adj 0 (fun _ => False) (List.replicate adj.length (-1)) (List.replicate adj.length (-1)) := by
  refine ⟨by simp, by simp, fun u p => ?_, fun u x hx => ?_, fun u => Iff.rfl, fun u x hx => ?_⟩
  · constructor
    · intro h
      unfold RelL at h
      rw [List.getElem?_replicate] at h
      split at h
      · simp at h
      · cases h
    · rintro ⟨_, ⟨h, _⟩ | ⟨_, h, _⟩⟩ <;> omega
  · rw [List.getElem?_replicate] at hx
    split at hx
    · cases hx; exact .inl rfl
    · cases hx
  · rw [List.getElem?_replicate] at hx
    split at hx
    · cases hx; exact .inl rfl
    · cases hx

/-- A stage whose parents are those of another. -/
theorem Stage.turn {adj : List (List Int)} {j j' : Nat} {T T' : Nat → Prop} {par ah : List Int} (h : Stage adj j T par ah) (he : ∀ u p, u < adj.length → (ParOf adj j T u p ↔ ParOf adj j' T' u p)) : Stage adj j' T' par ah :=
  ⟨h.lp, h.la, fun u p => (h.parI u p).trans (and_congr_right fun hu => he u p hu), h.none, h.ah0, h.ah1⟩

theorem parOf_next {adj : List (List Int)} (hV : Valid adj) {j : Nat} {T : Nat → Prop} (hT : ∀ i, Nb adj j i → T i) (u p : Nat) : ParOf adj j T u p ↔ ParOf adj (j + 1) (fun _ => False) u p := by
  have hs := Nb.symm hV
  constructor
  · rintro (⟨h1, h2⟩ | ⟨rfl, h2, h3, i, _, hij, hb, hanc⟩)
    · exact .inl ⟨by omega, h2⟩
    · refine .inl ⟨by omega, h2, ?_, fun q hq1 hq2 hw => ?_⟩
      · have hb' : Walk (Nb adj) p i p := .one (hs _ _ hb)
        rcases hanc.walk with rfl | hw
        · exact hb'
        · exact ((hw.symm hs).mono (by omega)).trans hij hb'
      · obtain ⟨r, hr1, hr2⟩ := par_exists hq1 hw
        exact h3 r (by omega) hr2
  · rintro (⟨h1, h2⟩ | ⟨_, _, _, _, h, _⟩)
    · rcases Nat.lt_or_ge p j with hp | hp
      · exact .inl ⟨hp, h2⟩
      · obtain rfl : p = j := by omega
        obtain ⟨k, hk1, hk2⟩ := (row_iff hs h2.1).1 h2.fill
        exact .inr ⟨rfl, h2.1, fun q hq hp' => by have := hp'.uniq h2; omega, k, hT k hk1, by have := hk2.le; have := h2.1; omega, hk1, hk2⟩
    · exact h.elim

/-- An edge that leads to a greater vertex joins nothing. -/
theorem parOf_more {adj : List (List Int)} {j k : Nat} {T : Nat → Prop} (hk : j ≤ k) (u p : Nat) : ParOf adj j (fun i => T i ∨ i = k) u p ↔ ParOf adj j T u p := by
  constructor
  · rintro (h | ⟨rfl, h2, h3, i, hT, hij, hb, hanc⟩)
    · exact .inl h
    · exact .inr ⟨rfl, h2, h3, i, hT.resolve_right (by omega), hij, hb, hanc⟩
  · rintro (h | ⟨rfl, h2, h3, i, hT, hij, hb, hanc⟩)
    · exact .inl h
    · exact .inr ⟨rfl, h2, h3, i, .inl hT, hij, hb, hanc⟩

theorem Parent_ok (adj : List (List Int)) (hc : ∀ l ∈ adj, l.length < 4611686018427387904) (hn : adj.length ≤ 200) (hV : Valid adj) :
    Ok (d_etree_Parent ((adj, ()), ())) (fun r => r.2.1 = 0 ∧ Forest adj r.1) := by
  classical
  unfold d_etree_Parent
  have hchk : chk adj = 0 := by unfold chk; rw [if_neg (by omega), if_pos hV]
  simp only [Ok.bind_iff, Check_eq adj hc, hchk, Ok.some_iff, Ok.bif_iff]
  refine ⟨fun h => by simp at h, fun _ => ?_⟩
  rw [newForest_eq _ hn]
  simp only [Ok.some_iff]
  refine Ok.mono (P := fun q => Stage adj adj.length (fun _ => False) q.1.1 q.1.2.1) ?_ ?_
  · refine Ok.for (i0 := 0) adj.length (fun j t => Stage adj j (fun _ => False) t.1.1 t.1.2.1) rfl (stage_zero adj) (Nat.zero_le _) ?_ ?_
    · rintro j ⟨⟨p, a, _⟩, _⟩ _ hj hS
      simp only at hS
      simp only [Ok.bif_iff, Ok.bind_iff, Ok.getN_iff, Ok.some_iff]
      refine ⟨fun _ => ⟨hj, ?_⟩, fun hf => by simp at hf; omega⟩
      have hlj := hc _ (List.getElem_mem hj)
      refine Ok.mono (P := fun q => Stage adj (j + 1) (fun _ => False) q.1.1 q.1.2.1) ?_ ?_
      · refine Ok.for (i0 := 0) adj[j].length (fun k t => Stage adj j (fun i => (i : Int) ∈ adj[j].take k) t.1.1 t.1.2.1) rfl (by simpa using hS) (Nat.zero_le _) ?_ ?_
        · rintro k ⟨⟨p', a', _⟩, _⟩ _ hk hS'
          simp only at hS'
          simp only [Ok.bif_iff, Ok.bind_iff, Ok.getN_iff, Ok.some_iff]
          refine ⟨fun _ => ⟨hk, ?_⟩, fun hf => by simp at hf; omega⟩
          have hr := (hV.asc j hj).2 _ (List.getElem_mem hk)
          obtain ⟨i, hi⟩ : ∃ i : Nat, adj[j][k] = (i : Int) := ⟨adj[j][k].toNat, by omega⟩
          have hb : Nb adj j i := ⟨hj, hi ▸ List.getElem_mem hk⟩
          rw [hi]
          refine (join_spec hV hn hS' hj hb).mono ?_
          rintro ⟨⟨p2, a2, _⟩, _⟩ hS2
          simp only at hS2
          refine ⟨wrap_succ (by omega), hS2.turn (fun u q _ => ?_)⟩
          have e : (fun i' : Nat => (i' : Int) ∈ adj[j].take k ∨ i' = i) = (fun i' : Nat => (i' : Int) ∈ adj[j].take (k + 1)) := by
            funext i'
            rw [← take_snoc hk, hi]
            apply propext
            simp only [List.mem_append, List.mem_singleton]
            constructor <;> rintro (h | h) <;> first | exact .inl h | (right; omega)
          rw [e]
        · rintro ⟨⟨p', a', _⟩, _⟩ hS'
          simp only at hS'
          simp only [Ok.bif_iff, Ok.some_iff]
          refine ⟨fun hf => by simp at hf, fun _ => ?_⟩
          rw [List.take_length] at hS'
          exact hS'.turn (fun u q _ => parOf_next hV (fun i hb => hb.2) u q)
      · rintro ⟨⟨p', a', _⟩, _⟩ hS'
        exact ⟨wrap_succ (by omega), hS'⟩
    · rintro ⟨⟨p, a, _⟩, _⟩ hS
      simp only [Ok.bif_iff, Ok.some_iff]
      exact ⟨fun hf => by simp at hf, fun _ => hS⟩
  · rintro ⟨⟨p, a, _⟩, _⟩ hS
    simp only at hS
    refine ⟨trivial, hS.lp, fun u q => ?_, hS.none⟩
    rw [show (p[u]? = some (q : Int)) = RelL p u q from rfl, hS.parI]
    constructor
    · rintro ⟨_, ⟨_, h⟩ | ⟨_, _, _, _, h, _⟩⟩
      · exact h
      · exact h.elim
    · intro h
      have := h.2.1.lt hV
      exact ⟨this.1, .inl ⟨this.2, h⟩⟩
end Go.Fw
