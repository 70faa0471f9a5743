/-
  The plain laws, part 16: the document's elimination game.
-/
import Derived.Test.YtlalecmgnaoiiaaPl14
import Derived.Test.YtlalecmgnaoiiaaTh2
set_option linter.unusedSimpArgs false
set_option linter.unusedVariables false
namespace Go.Fw

theorem sorted_ext : ∀ {a b : List Int}, a.Pairwise (· < ·) → b.Pairwise (· < ·) → (∀ x, x ∈ a ↔ x ∈ b) → a = b := by
  intro a
  induction a with
  | nil =>
    intro b _ _ h
    cases b with
    | nil => rfl
    | cons y b => exact absurd ((h y).2 (List.mem_cons_self ..)) (by simp)
  | cons x a ih =>
    intro b ha hb h
    cases b with
    | nil => exact absurd ((h x).1 (List.mem_cons_self ..)) (by simp)
    | cons y b =>
      rw [List.pairwise_cons] at ha hb
      have hxy : x = y := by
        have h1 := (h x).1 (List.mem_cons_self ..)
        have h2 := (h y).2 (List.mem_cons_self ..)
        rcases List.mem_cons.1 h1 with h1 | h1
        · exact h1
        · rcases List.mem_cons.1 h2 with h2 | h2
          · exact h2.symm
          · have := hb.1 _ h1; have := ha.1 _ h2; omega
      subst hxy
      rw [ih ha.2 hb.2]
      intro z
      have := h z
      simp only [List.mem_cons] at this
      constructor
      · intro hz
        have h1 := ha.1 _ hz
        rcases this.1 (.inr hz) with h2 | h2
        · omega
        · exact h2
      · intro hz
        have h1 := hb.1 _ hz
        rcases this.2 (.inr hz) with h2 | h2
        · omega
        · exact h2

/-- The state of the game when the vertices of S are eliminated. -/
structure Elim (adj : List (List Int)) (S : Nat → Prop) (T : List (List Bool)) (gone : List Bool) : Prop where
  tl : T.length = adj.length
  rows : ∀ v, (h : v < T.length) → T[v].length = adj.length
  gl : gone.length = adj.length
  gi : ∀ v, (h : v < gone.length) → (gone[v] = true ↔ S v)
  ti : ∀ u w, (hu : u < T.length) → (hw : w < T[u].length) → ¬ S u → ¬ S w → (T[u][w] = true ↔ u ≠ w ∧ WalkP (Nb adj) S u w)

def nbrV (T : List (List Bool)) (gone : List Bool) (v k : Nat) : List Int := ((List.range k).filter fun w => bitT T v w && !gone.getD w false).map fun (w : Nat) => (w : Int)

theorem mem_nbrV {adj : List (List Int)} {S : Nat → Prop} {T : List (List Bool)} {gone : List Bool} (h : Elim adj S T gone) {v w : Nat} (hv : v < adj.length) (hS : ¬ S v) :
    (w : Int) ∈ nbrV T gone v adj.length ↔ w < adj.length ∧ ¬ S w ∧ v ≠ w ∧ WalkP (Nb adj) S v w := by
  unfold nbrV
  simp only [List.mem_map, List.mem_filter, List.mem_range, Bool.and_eq_true, Bool.not_eq_true']
  have key : ∀ w, w < adj.length → ((bitT T v w = true ∧ gone.getD w false = false) ↔ ¬ S w ∧ v ≠ w ∧ WalkP (Nb adj) S v w) := by
    intro w hw
    have h1 : v < T.length := by rw [h.tl]; exact hv
    have h2 : w < T[v].length := by rw [h.rows v h1]; exact hw
    have h3 : w < gone.length := by rw [h.gl]; exact hw
    have h4 : gone.getD w false = gone[w] := by simp [List.getD, h3]
    rw [bitT_get h1 h2, h4, Bool.eq_false_iff, ne_eq, h.gi w h3]
    constructor
    · rintro ⟨g1, g2⟩; exact ⟨g2, (h.ti v w h1 h2 hS g2).1 g1⟩
    · rintro ⟨g1, g2⟩; exact ⟨(h.ti v w h1 h2 hS g1).2 g2, g1⟩
  constructor
  · rintro ⟨a, ⟨h1, h2⟩, h3⟩
    obtain rfl : a = w := by omega
    exact ⟨h1, (key a h1).1 h2⟩
  · exact fun ⟨h1, h2⟩ => ⟨w, ⟨h1, (key w h1).2 h2⟩, rfl⟩

theorem nbrV_length (T : List (List Bool)) (gone : List Bool) (v k : Nat) : (nbrV T gone v k).length ≤ k := by
  unfold nbrV
  rw [List.length_map]
  exact Nat.le_trans (List.length_filter_le _ _) (by simp)
theorem nbrV_rng {T : List (List Bool)} {gone : List Bool} {v k : Nat} {x : Int} (h : x ∈ nbrV T gone v k) : ∃ w : Nat, x = (w : Int) ∧ w < k := by
  unfold nbrV at h
  simp only [List.mem_map, List.mem_filter, List.mem_range] at h
  obtain ⟨a, ⟨h1, _⟩, h3⟩ := h
  exact ⟨a, h3.symm, h1⟩

theorem Neighbours_eq {n : Nat} {T : List (List Bool)} {gone : List Bool} (hT : T.length = n) (hr : ∀ v, (h : v < T.length) → T[v].length = n) (hg : gone.length = n) (hn : n ≤ 4294967296) {v : Nat} (hv : v < n) :
    d_sparseref16q_Elimination_Neighbours (some (T, gone, ()), (v : Int), ()) = some (nbrV T gone v n, ()) := by
  rw [← Ok.eq_iff]
  unfold d_sparseref16q_Elimination_Neighbours
  have hlim : lim = 4294967296 := rfl
  simp only [Ok.bind_iff, Ok.some_iff]
  refine Ok.mono (P := fun q => q.1 = nbrV T gone v n) ?_ (by rintro ⟨o, _⟩ h; simp only at h; rw [h])
  refine Ok.for (i0 := 0) n (fun k t => t.1 = nbrV T gone v k) rfl rfl (Nat.zero_le _) ?_ ?_
  · rintro w ⟨o, _⟩ _ hw ho
    simp only at ho
    have hol := nbrV_length T gone v w
    simp only [Option.bind_some]
    rw [Ok.bif_iff]
    refine ⟨fun _ => ?_, fun hf => by simp at hf; omega⟩
    rw [Ok.bind_iff, Ok.bind_iff]
    have hvT : v < T.length := by omega
    have hwr : w < T[v].length := by rw [hr v hvT]; exact hw
    have hg1 : getI T (v : Int) = some T[v] := getN_some (List.getElem?_eq_getElem hvT)
    have hg2 : getI T[v] (w : Int) = some T[v][w] := getN_some (List.getElem?_eq_getElem hwr)
    have hg3 : getI gone (w : Int) = some (gone.getD w false) := getN_some (by rw [List.getElem?_eq_getElem (by omega)]; simp [List.getD, show w < gone.length by omega])
    refine Ok.mono (P := fun q => q = ((bitT T v w && !gone.getD w false), o, ())) ?_ ?_
    · simp only [hg1, hg2, hg3, Ok.bind_iff, Ok.bif_iff, Ok.some_iff, bitT_get hvT hwr]
      refine ⟨fun h => ?_, fun h => ?_⟩
      · have h : T[v][w] = true := by simpa using h
        rw [h]; rfl
      · have h : T[v][w] = false := by simpa using h
        rw [h]; rfl
    · rintro _ rfl
      simp only [Ok.bif_iff, Ok.bind_iff, Ok.some_iff, Ok.limO_iff]
      refine ⟨fun h => ⟨by rw [ho]; simp; omega, wrap_succ (by omega), ?_⟩, fun h => ⟨wrap_succ (by omega), ?_⟩⟩
      · unfold nbrV at ho ⊢
        rw [List.range_succ, List.filter_append, List.map_append, ← ho]; simp only [List.filter_cons, List.filter_nil]; rw [if_pos h]; rfl
      · unfold nbrV at ho ⊢
        rw [List.range_succ, List.filter_append, List.map_append, ← ho]; simp only [List.filter_cons, List.filter_nil]; rw [if_neg (by rw [h]; simp)]; simp
  · rintro ⟨o, _⟩ ho
    simp only at ho
    simp only [Option.bind_some, Ok.bif_iff, Ok.some_iff]
    exact ⟨fun hf => by simp at hf; omega, fun _ => ho⟩

/-- A table with one more entry. -/
theorem bit_set {T : List (List Bool)} {k k2 : Nat} (h : k < T.length) (h2 : k2 < T[k].length) (u w : Nat) : bitT (T.set k (T[k].set k2 true)) u w = (bitT T u w || (u == k && w == k2)) := by
  unfold bitT
  simp only [List.getD, List.getElem?_set]
  by_cases hu : k = u
  · subst hu
    rw [if_pos rfl, if_pos h, List.getElem?_eq_getElem h]
    simp only [Option.getD_some, List.getElem?_set]
    by_cases hw : k2 = w
    · subst hw
      rw [if_pos rfl, if_pos h2]; simp
    · rw [if_neg hw]
      have : (w == k2) = false := by rw [beq_eq_false_iff_ne]; omega
      simp [this]
  · rw [if_neg hu]
    have : (u == k) = false := by rw [beq_eq_false_iff_ne]; omega
    simp [this]

theorem nbrV_asc (T : List (List Bool)) (gone : List Bool) (v k : Nat) : (nbrV T gone v k).Pairwise (· < ·) := sorted_filter _ _

/-- What an elimination does to the table. -/
theorem Eliminate_tab {n : Nat} {T : List (List Bool)} {gone : List Bool} (hT : T.length = n) (hr : ∀ v, (h : v < T.length) → T[v].length = n) (hg : gone.length = n) (hn : n ≤ 4294967296) {v : Nat} (hv : v < n) :
    Ok (d_sparseref16q_Elimination_Eliminate ((T, gone, ()), (v : Int), ())) (fun r => r.1.2.1 = gone.set v true ∧ r.1.1.length = n ∧ (∀ v, (h : v < r.1.1.length) → r.1.1[v].length = n) ∧
      ∀ u w, u < n → w < n → (bitT r.1.1 u w = true ↔ bitT T u w = true ∨ ((u : Int) ∈ nbrV T gone v n ∧ (w : Int) ∈ nbrV T gone v n ∧ u ≠ w))) := by
  unfold d_sparseref16q_Elimination_Eliminate
  simp only [Neighbours_eq hT hr hg hn hv, Option.bind_some]
  have hLl := nbrV_length T gone v n
  have hLr : ∀ x ∈ nbrV T gone v n, ∃ w : Nat, x = (w : Int) ∧ w < n := fun x hx => nbrV_rng hx
  have hLs := nbrV_asc T gone v n
  generalize nbrV T gone v n = L at hLl hLr hLs
  have uniq : ∀ k k' : Nat, (h : k < L.length) → (h' : k' < L.length) → L[k] = L[k'] → k = k' := fun k k' h h' e => by
    rcases Nat.lt_trichotomy k k' with g | g | g
    · have := (List.pairwise_iff_getElem.1 hLs) k k' h h' g; omega
    · exact g
    · have := (List.pairwise_iff_getElem.1 hLs) k' k h' h g; omega
  simp only [Ok.bind_iff]
  refine Ok.mono (P := fun q : ((List (List Bool)) × ((List Bool) × Unit)) × Unit => q.1.2.1 = gone ∧ q.1.1.length = n ∧ (∀ v, (h : v < q.1.1.length) → q.1.1[v].length = n) ∧
      ∀ u w, u < n → w < n → (bitT q.1.1 u w = true ↔ bitT T u w = true ∨ ((u : Int) ∈ L ∧ (w : Int) ∈ L ∧ u ≠ w))) ?_ ?_
  · refine Ok.for (i0 := 0) L.length (fun i q => q.1.2.1 = gone ∧ q.1.1.length = n ∧ (∀ v, (h : v < q.1.1.length) → q.1.1[v].length = n) ∧
      ∀ u w, u < n → w < n → (bitT q.1.1 u w = true ↔ bitT T u w = true ∨ ((u : Int) ∈ L.take i ∧ (w : Int) ∈ L ∧ u ≠ w))) rfl ⟨rfl, hT, hr, fun u w _ _ => by simp⟩ (Nat.zero_le _) ?_ ?_
    · rintro i ⟨⟨T1, g1, _⟩, _⟩ _ hi ⟨h1, h2, h3, h4⟩
      simp only at h1 h2 h3 h4
      simp only [Ok.bif_iff, Ok.bind_iff]
      refine ⟨fun _ => ?_, fun hf => by simp at hf; omega⟩
      refine Ok.mono (P := fun q : ((List (List Bool)) × ((List Bool) × Unit)) × Unit => q.1.2.1 = gone ∧ q.1.1.length = n ∧ (∀ v, (h : v < q.1.1.length) → q.1.1[v].length = n) ∧
        ∀ u w, u < n → w < n → (bitT q.1.1 u w = true ↔ bitT T u w = true ∨ ((u : Int) ∈ L.take (i + 1) ∧ (w : Int) ∈ L ∧ u ≠ w))) ?_ (by rintro ⟨e, _⟩ h; simp only [Ok.some_iff]; exact ⟨wrap_succ (by omega), h⟩)
      obtain ⟨a, ha, han⟩ := hLr _ (List.getElem_mem hi)
      refine Ok.for (i0 := 0) L.length (fun j q => q.1.2.1 = gone ∧ q.1.1.length = n ∧ (∀ v, (h : v < q.1.1.length) → q.1.1[v].length = n) ∧
        ∀ u w, u < n → w < n → (bitT q.1.1 u w = true ↔ bitT T u w = true ∨ ((u : Int) ∈ L.take i ∧ (w : Int) ∈ L ∧ u ≠ w) ∨ (u = a ∧ (w : Int) ∈ L.take j ∧ u ≠ w))) rfl ⟨h1, h2, h3, fun u w hu hw => by rw [h4 u w hu hw]; simp⟩ (Nat.zero_le _) ?_ ?_
      · rintro j ⟨⟨T2, g2, _⟩, _⟩ _ hj ⟨k1, k2, k3, k4⟩
        simp only at k1 k2 k3 k4
        obtain ⟨b, hb, hbn⟩ := hLr _ (List.getElem_mem hj)
        have ga : getI L (i : Int) = some (a : Int) := getN_some (by rw [List.getElem?_eq_getElem hi, ha])
        have gb : getI L (j : Int) = some (b : Int) := getN_some (by rw [List.getElem?_eq_getElem hj, hb])
        have haT : a < T2.length := by omega
        have hbT : b < T2[a].length := by rw [k3 a haT]; exact hbn
        simp only [Ok.bif_iff, Ok.bind_iff, ga, gb, Ok.some_iff, Ok.idxN_iff, Ok.atO_iff, Ok.map_iff, Int.toNat_natCast]
        refine ⟨fun _ => ⟨fun hne => ⟨⟨by omega, haT⟩, haT, ⟨by omega, hbT⟩, haT, hbT, wrap_succ (by omega), k1, by simpa using k2, fun x hx => ?_, fun u w hu hw => ?_⟩, fun heq => ⟨wrap_succ (by omega), k1, k2, k3, fun u w hu hw => ?_⟩⟩, fun hf => by simp at hf; omega⟩
        · rw [List.getElem_set]
          split
          · rw [List.length_set]; exact k3 a haT
          · exact k3 x (by simpa using hx)
        · have hne : i ≠ j := by simp at hne; omega
          have hab : a ≠ b := fun e => hne (uniq i j hi hj (by rw [ha, hb, e]))
          rw [bit_set haT hbT, Bool.or_eq_true, k4 u w hu hw, ← take_snoc hj, hb, List.mem_append, List.mem_singleton]
          simp only [Bool.and_eq_true, beq_iff_eq]
          constructor
          · rintro ((h | h | ⟨h, h', h''⟩) | ⟨h, h'⟩)
            · exact .inl h
            · exact .inr (.inl h)
            · exact .inr (.inr ⟨h, .inl h', h''⟩)
            · exact .inr (.inr ⟨h, .inr (by omega), by omega⟩)
          · rintro (h | h | ⟨h, h' | h', h''⟩)
            · exact .inl (.inl h)
            · exact .inl (.inr (.inl h))
            · exact .inl (.inr (.inr ⟨h, h', h''⟩))
            · exact .inr ⟨h, by omega⟩
        · have hij : i = j := by simp at heq; omega
          have hab : a = b := by
            subst hij
            rw [ha] at hb; omega
          rw [k4 u w hu hw, ← take_snoc hj, hb, List.mem_append, List.mem_singleton]
          constructor
          · rintro (h | h | ⟨h, h', h''⟩)
            · exact .inl h
            · exact .inr (.inl h)
            · exact .inr (.inr ⟨h, .inl h', h''⟩)
          · rintro (h | h | ⟨h, h' | h', h''⟩)
            · exact .inl h
            · exact .inr (.inl h)
            · exact .inr (.inr ⟨h, h', h''⟩)
            · omega
      · rintro ⟨⟨T2, g2, _⟩, _⟩ ⟨k1, k2, k3, k4⟩
        simp only at k1 k2 k3 k4
        simp only [Ok.bif_iff, Ok.some_iff]
        refine ⟨fun hf => by simp at hf, fun _ => ⟨k1, k2, k3, fun u w hu hw => ?_⟩⟩
        rw [k4 u w hu hw, List.take_length, ← take_snoc hi, ha, List.mem_append, List.mem_singleton]
        constructor
        · rintro (h | ⟨h, h', h''⟩ | ⟨h, h', h''⟩)
          · exact .inl h
          · exact .inr ⟨.inl h, h', h''⟩
          · exact .inr ⟨.inr (by omega), h', h''⟩
        · rintro (h | ⟨h | h, h', h''⟩)
          · exact .inl h
          · exact .inr (.inl ⟨h, h', h''⟩)
          · exact .inr (.inr ⟨by omega, h', h''⟩)
    · rintro ⟨⟨T1, g1, _⟩, _⟩ ⟨h1, h2, h3, h4⟩
      simp only at h1 h2 h3 h4
      simp only [Ok.bif_iff, Ok.some_iff]
      refine ⟨fun hf => by simp at hf, fun _ => ⟨h1, h2, h3, fun u w hu hw => ?_⟩⟩
      rw [h4 u w hu hw, List.take_length]
  · rintro ⟨⟨T1, g1, _⟩, _⟩ ⟨h1, h2, h3, h4⟩
    simp only at h1 h2 h3 h4
    subst h1
    simp only [Ok.bind_iff, Ok.idxN_iff, Ok.atO_iff, Ok.some_iff, Ok.map_iff, Int.toNat_natCast]
    exact ⟨⟨by omega, by omega⟩, by omega, trivial, h2, h3, h4⟩

theorem Eliminate_ok {adj : List (List Int)} (hV : Valid adj) (hn : adj.length ≤ 4294967296) {S : Nat → Prop} {T : List (List Bool)} {gone : List Bool} (h : Elim adj S T gone) {v : Nat} (hv : v < adj.length) (hS : ¬ S v) :
    Ok (d_sparseref16q_Elimination_Eliminate ((T, gone, ()), (v : Int), ())) (fun r => Elim adj (fun x => S x ∨ x = v) r.1.1 r.1.2.1) := by
  refine (Eliminate_tab h.tl h.rows h.gl hn hv).mono ?_
  rintro ⟨⟨T1, g1, _⟩, _⟩ ⟨h1, h2, h3, h4⟩
  simp only at h1 h2 h3 h4 ⊢
  subst h1
  have hs := Nb.symm hV
  refine ⟨h2, h3, by rw [List.length_set]; exact h.gl, fun x hx => ?_, fun u w hu hw hSu hSw => ?_⟩
  · rw [List.getElem_set]
    by_cases hxv : v = x
    · rw [if_pos hxv]; simp [hxv]
    · rw [if_neg hxv, h.gi]
      constructor
      · exact .inl
      · rintro (g | g)
        · exact g
        · exact absurd g.symm hxv
  · have hul : u < adj.length := by omega
    have hwl : w < adj.length := by rw [h3 u hu] at hw; exact hw
    have := h4 u w hul hwl
    rw [bitT_get hu hw] at this
    have huT : u < T.length := by rw [h.tl]; exact hul
    have hwT : w < T[u].length := by rw [h.rows u huT]; exact hwl
    have nu : ¬ S u := fun g => hSu (.inl g)
    have nw : ¬ S w := fun g => hSw (.inl g)
    have uv : v ≠ u := fun g => hSu (.inr g.symm)
    have wv : v ≠ w := fun g => hSw (.inr g.symm)
    rw [this, bitT_get huT hwT, h.ti u w huT hwT nu nw, mem_nbrV h hv hS, mem_nbrV h hv hS, WalkP.insert_iff]
    constructor
    · rintro (⟨g1, g2⟩ | ⟨⟨_, _, _, g2⟩, ⟨_, _, _, g4⟩, g5⟩)
      · exact ⟨g1, .inl g2⟩
      · exact ⟨g5, .inr ⟨g2.symm hs, g4⟩⟩
    · rintro ⟨g1, g2 | ⟨g2, g3⟩⟩
      · exact .inl ⟨g1, g2⟩
      · exact .inr ⟨⟨hul, nu, uv, g2.symm hs⟩, ⟨hwl, nw, wv, g3⟩, g1⟩

theorem Begin_ok {adj : List (List Int)} (hV : Valid adj) (hc : ∀ l ∈ adj, l.length < 4611686018427387904) (hn : adj.length ≤ 200) :
    Ok (d_sparseref16q_Begin ((adj, ()), ())) (fun r => Elim adj (fun _ => False) r.1.1 r.1.2.1) := by
  unfold d_sparseref16q_Begin
  have hlim : lim = 4294967296 := rfl
  simp only [Table_eq hc hn (fun v hv => (hV.asc v hv).2), Option.bind_some, Ok.bind_iff, Ok.madeO_iff, Ok.some_iff, Int.toNat_natCast]
  refine ⟨⟨by omega, by omega, by omega⟩, tabT_length adj, fun v h => ?_, by simp, fun v h => by simp, fun u w hu hw _ _ => ?_⟩
  · simp [tabT]
  · rw [WalkP.none]
    have hul : u < adj.length := by rw [tabT_length] at hu; exact hu
    have hwl : w < adj.length := by simp [tabT] at hw; exact hw
    have e : (tabT adj)[u][w] = decide ((w : Int) ∈ adj[u]) := by simp [tabT, List.getD, hul]
    rw [e, decide_eq_true_eq]
    constructor
    · exact fun hm => ⟨Nb.ne hV ⟨hul, hm⟩, hul, hm⟩
    · exact fun hm => hm.2.2

open Classical in
theorem refColumns_eq {adj : List (List Int)} (hV : Valid adj) (hc : ∀ l ∈ adj, l.length < 4611686018427387904) (hn : adj.length ≤ 200) :
    d_sparseref20q_Columns ((adj, ()), ()) = some ((List.range adj.length).map (colV adj), 0, ()) := by
  rw [← Ok.eq_iff]
  unfold d_sparseref20q_Columns
  have hlim : lim = 4294967296 := rfl
  have hchk : chk adj = 0 := by unfold chk; rw [if_neg (by omega), if_pos hV]
  simp only [refCheck_eq adj hc, hchk, Option.bind_some, bne_self_eq_false, cond_false]
  simp only [Ok.bind_iff]
  refine (Begin_ok hV hc hn).mono ?_
  rintro ⟨⟨T, gone, _⟩, _⟩ hE
  simp only at hE
  simp only [Ok.bind_iff]
  refine Ok.mono (P := fun q => q.1 = (List.range adj.length).map (colV adj)) ?_ (by rintro ⟨o, _⟩ h; simp only at h; simp only [Ok.some_iff, h])
  refine Ok.for (i0 := 0) adj.length (fun j t => t.2.1 = (List.range j).map (colV adj) ∧ Elim adj (fun x => x < j) t.1.1 t.1.2.1) rfl ⟨rfl, ?_⟩ (Nat.zero_le _) ?_ ?_
  · have : (fun x : Nat => x < 0) = fun _ => False := by funext x; simp
    rw [this]; exact hE
  · rintro j ⟨⟨T, gone, _⟩, out, _⟩ _ hj ⟨ho, hE⟩
    simp only at ho hE
    have hll := nbrV_length T gone j adj.length
    have hcol : [(j : Int)] ++ nbrV T gone j adj.length = colV adj j := by
      have hmem := fun w => mem_nbrV hE (v := j) (w := w) hj (Nat.lt_irrefl j)
      refine sorted_ext ?_ (colV_asc adj j) ?_
      · rw [List.singleton_append, List.pairwise_cons]
        refine ⟨fun x hx => ?_, nbrV_asc _ _ _ _⟩
        obtain ⟨w, rfl, _⟩ := nbrV_rng hx
        have := (hmem w).1 hx
        omega
      · intro x
        constructor
        · intro hx
          rw [List.singleton_append, List.mem_cons] at hx
          rcases hx with rfl | hx
          · exact mem_colV.2 ⟨hj, .inl rfl⟩
          · obtain ⟨w, rfl, _⟩ := nbrV_rng hx
            have := (hmem w).1 hx
            exact mem_colV.2 ⟨this.1, .inr ⟨by omega, walk_iff.2 this.2.2.2⟩⟩
        · intro hx
          rw [List.singleton_append, List.mem_cons]
          have hx' := hx
          unfold colV colK at hx
          simp only [List.mem_map] at hx
          obtain ⟨w, _, rfl⟩ := hx
          obtain ⟨h1, h2 | ⟨h2, h3⟩⟩ := mem_colV.1 hx'
          · exact .inl (by omega)
          · exact .inr ((hmem w).2 ⟨h1, by omega, by omega, walk_iff.1 h3⟩)
    rw [Ok.bif_iff]
    refine ⟨fun _ => ?_, fun hf => by simp at hf; omega⟩
    simp only [Neighbours_eq hE.tl hE.rows hE.gl (show adj.length ≤ 4294967296 by omega) hj, Option.bind_some, Ok.bind_iff, Ok.limO_iff]
    refine ⟨by simp; omega, by rw [ho]; simp; omega, ?_⟩
    refine (Eliminate_ok hV (by omega) hE hj (Nat.lt_irrefl j)).mono ?_
    rintro ⟨⟨T1, g1, _⟩, _⟩ hE'
    simp only at hE'
    simp only [Ok.some_iff]
    refine ⟨wrap_succ (by omega), ?_, ?_⟩
    · rw [ho, hcol, List.range_succ, List.map_append]; rfl
    · have : (fun x : Nat => x < j + 1) = fun x => x < j ∨ x = j := by funext x; apply propext; omega
      rw [this]; exact hE'
  · rintro ⟨⟨T, gone, _⟩, out, _⟩ ⟨ho, _⟩
    simp only at ho
    simp only [Ok.bif_iff, Ok.some_iff]
    exact ⟨fun hf => by simp at hf, fun _ => ho⟩
end Go.Fw
