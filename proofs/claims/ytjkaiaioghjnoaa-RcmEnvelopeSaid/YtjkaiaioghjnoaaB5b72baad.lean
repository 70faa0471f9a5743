/-
  Parts of the proof: Pl16, Pl18, Th3, Pl29, Pl30, Pl33, Pl40, Pl41, Pl42, Pl44, Pl45, Pl46, Pl47, Pl48, Pl49, Pl50, Pl51, Ev17, Pl54, Pl55: the framework (Fw), pure forms (Dn), plain laws (Pl, Th), calls of functions (Ok).
-/
import Derived.KernelRfl
import Derived.Test.YtjkaiaioghjnoaaBe478fc64

set_option linter.all false
section
set_option linter.unusedSimpArgs false
set_option linter.unusedVariables false
namespace Go.Fw
theorem sorted_ext : ∀ {a b : List Int}, a.Pairwise (· < ·) → b.Pairwise (· < ·) → (∀ x, x ∈ a ↔ x ∈ b) → a = b := by
  intro a
  induction a with
  | nil =>
    intro b _ _ h
    cases b with
    | nil => rfl
    | cons y b => exact absurd ((h y).2 (List.mem_cons_self ..)) (by simp)
  | cons x a ih =>
    intro b ha hb h
    cases b with
    | nil => exact absurd ((h x).1 (List.mem_cons_self ..)) (by simp)
    | cons y b =>
      rw [List.pairwise_cons] at ha hb
      have hxy : x = y := by
        have h1 := (h x).1 (List.mem_cons_self ..)
        have h2 := (h y).2 (List.mem_cons_self ..)
        rcases List.mem_cons.1 h1 with h1 | h1
        · exact h1
        · rcases List.mem_cons.1 h2 with h2 | h2
          · exact h2.symm
          · have := hb.1 _ h1; have := ha.1 _ h2; omega
      subst hxy
      rw [ih ha.2 hb.2]
      intro z
      have := h z
      simp only [List.mem_cons] at this
      constructor
      · intro hz
        have h1 := ha.1 _ hz
        rcases this.1 (.inr hz) with h2 | h2
        · omega
        · exact h2
      · intro hz
        have h1 := hb.1 _ hz
        rcases this.2 (.inr hz) with h2 | h2
        · omega
        · exact h2
structure Elim (adj : List (List Int)) (S : Nat → Prop) (T : List (List Bool)) (gone : List Bool) : Prop where
  tl : T.length = adj.length
  rows : ∀ v, (h : v < T.length) → T[v].length = adj.length
  gl : gone.length = adj.length
  gi : ∀ v, (h : v < gone.length) → (gone[v] = true ↔ S v)
  ti : ∀ u w, (hu : u < T.length) → (hw : w < T[u].length) → ¬ S u → ¬ S w → (T[u][w] = true ↔ u ≠ w ∧ WalkP (Nb adj) S u w)
def nbrV (T : List (List Bool)) (gone : List Bool) (v k : Nat) : List Int := ((List.range k).filter fun w => bitT T v w && !gone.getD w false).map fun (w : Nat) => (w : Int)
theorem mem_nbrV {adj : List (List Int)} {S : Nat → Prop} {T : List (List Bool)} {gone : List Bool} (h : Elim adj S T gone) {v w : Nat} (hv : v < adj.length) (hS : ¬ S v) :
    (w : Int) ∈ nbrV T gone v adj.length ↔ w < adj.length ∧ ¬ S w ∧ v ≠ w ∧ WalkP (Nb adj) S v w := by
  unfold nbrV
  simp only [List.mem_map, List.mem_filter, List.mem_range, Bool.and_eq_true, Bool.not_eq_true']
  have key : ∀ w, w < adj.length → ((bitT T v w = true ∧ gone.getD w false = false) ↔ ¬ S w ∧ v ≠ w ∧ WalkP (Nb adj) S v w) := by
    intro w hw
    have h1 : v < T.length := by rw [h.tl]; exact hv
    have h2 : w < T[v].length := by rw [h.rows v h1]; exact hw
    have h3 : w < gone.length := by rw [h.gl]; exact hw
    have h4 : gone.getD w false = gone[w] := by simp [List.getD, h3]
    rw [bitT_get h1 h2, h4, Bool.eq_false_iff, ne_eq, h.gi w h3]
    constructor
    · rintro ⟨g1, g2⟩; exact ⟨g2, (h.ti v w h1 h2 hS g2).1 g1⟩
    · rintro ⟨g1, g2⟩; exact ⟨(h.ti v w h1 h2 hS g1).2 g2, g1⟩
  constructor
  · rintro ⟨a, ⟨h1, h2⟩, h3⟩
    obtain rfl : a = w := by omega
    exact ⟨h1, (key a h1).1 h2⟩
  · exact fun ⟨h1, h2⟩ => ⟨w, ⟨h1, (key w h1).2 h2⟩, rfl⟩
theorem nbrV_length (T : List (List Bool)) (gone : List Bool) (v k : Nat) : (nbrV T gone v k).length ≤ k := by
  unfold nbrV
  rw [List.length_map]
  exact Nat.le_trans (List.length_filter_le _ _) (by simp)
theorem nbrV_rng {T : List (List Bool)} {gone : List Bool} {v k : Nat} {x : Int} (h : x ∈ nbrV T gone v k) : ∃ w : Nat, x = (w : Int) ∧ w < k := by
  unfold nbrV at h
  simp only [List.mem_map, List.mem_filter, List.mem_range] at h
  obtain ⟨a, ⟨h1, _⟩, h3⟩ := h
  exact ⟨a, h3.symm, h1⟩
theorem Neighbours_eq {n : Nat} {T : List (List Bool)} {gone : List Bool} (hT : T.length = n) (hr : ∀ v, (h : v < T.length) → T[v].length = n) (hg : gone.length = n) (hn : n ≤ 4294967296) {v : Nat} (hv : v < n) :
    d_sparseref16q_Elimination_Neighbours (some (T, gone, ()), (v : Int), ()) = some (nbrV T gone v n, ()) := by
  rw [← Ok.eq_iff]
  unfold d_sparseref16q_Elimination_Neighbours
  have hlim : lim = 4294967296 := rfl
  simp only [Ok.bind_iff, Ok.some_iff]
  refine Ok.mono (P := fun q => q.1 = nbrV T gone v n) ?_ (by rintro ⟨o, _⟩ h; simp only at h; rw [h])
  refine Ok.for (i0 := 0) n (fun k t => t.1 = nbrV T gone v k) rfl rfl (Nat.zero_le _) ?_ ?_
  · rintro w ⟨o, _⟩ _ hw ho
    simp only at ho
    have hol := nbrV_length T gone v w
    simp only [Option.bind_some]
    rw [Ok.bif_iff]
    refine ⟨fun _ => ?_, fun hf => by simp at hf; omega⟩
    rw [Ok.bind_iff, Ok.bind_iff]
    have hvT : v < T.length := by omega
    have hwr : w < T[v].length := by rw [hr v hvT]; exact hw
    have hg1 : getI T (v : Int) = some T[v] := getN_some (List.getElem?_eq_getElem hvT)
    have hg2 : getI T[v] (w : Int) = some T[v][w] := getN_some (List.getElem?_eq_getElem hwr)
    have hg3 : getI gone (w : Int) = some (gone.getD w false) := getN_some (by rw [List.getElem?_eq_getElem (by omega)]; simp [List.getD, show w < gone.length by omega])
    refine Ok.mono (P := fun q => q = ((bitT T v w && !gone.getD w false), o, ())) ?_ ?_
    · simp only [hg1, hg2, hg3, Ok.bind_iff, Ok.bif_iff, Ok.some_iff, bitT_get hvT hwr]
      refine ⟨fun h => ?_, fun h => ?_⟩
      · have h : T[v][w] = true := by simpa using h
        rw [h]; rfl
      · have h : T[v][w] = false := by simpa using h
        rw [h]; rfl
    · rintro _ rfl
      simp only [Ok.bif_iff, Ok.bind_iff, Ok.some_iff, Ok.limO_iff]
      refine ⟨fun h => ⟨by rw [ho]; simp; omega, wrap_succ (by omega), ?_⟩, fun h => ⟨wrap_succ (by omega), ?_⟩⟩
      · unfold nbrV at ho ⊢
        rw [List.range_succ, List.filter_append, List.map_append, ← ho]; simp only [List.filter_cons, List.filter_nil]; rw [if_pos h]; rfl
      · unfold nbrV at ho ⊢
        rw [List.range_succ, List.filter_append, List.map_append, ← ho]; simp only [List.filter_cons, List.filter_nil]; rw [if_neg (by rw [h]; simp)]; simp
  · rintro ⟨o, _⟩ ho
    simp only at ho
    simp only [Option.bind_some, Ok.bif_iff, Ok.some_iff]
    exact ⟨fun hf => by simp at hf; omega, fun _ => ho⟩
theorem bit_set {T : List (List Bool)} {k k2 : Nat} (h : k < T.length) (h2 : k2 < T[k].length) (u w : Nat) : bitT (T.set k (T[k].set k2 true)) u w = (bitT T u w || (u == k && w == k2)) := by
  unfold bitT
  simp only [List.getD, List.getElem?_set]
  by_cases hu : k = u
  · subst hu
    rw [if_pos rfl, if_pos h, List.getElem?_eq_getElem h]
    simp only [Option.getD_some, List.getElem?_set]
    by_cases hw : k2 = w
    · subst hw
      rw [if_pos rfl, if_pos h2]; simp
    · rw [if_neg hw]
      have : (w == k2) = false := by rw [beq_eq_false_iff_ne]; omega
      simp [this]
  · rw [if_neg hu]
    have : (u == k) = false := by rw [beq_eq_false_iff_ne]; omega
    simp [this]
theorem nbrV_asc (T : List (List Bool)) (gone : List Bool) (v k : Nat) : (nbrV T gone v k).Pairwise (· < ·) := sorted_filter _ _
theorem Eliminate_tab {n : Nat} {T : List (List Bool)} {gone : List Bool} (hT : T.length = n) (hr : ∀ v, (h : v < T.length) → T[v].length = n) (hg : gone.length = n) (hn : n ≤ 4294967296) {v : Nat} (hv : v < n) :
    Ok (d_sparseref16q_Elimination_Eliminate ((T, gone, ()), (v : Int), ())) (fun r => r.1.2.1 = gone.set v true ∧ r.1.1.length = n ∧ (∀ v, (h : v < r.1.1.length) → r.1.1[v].length = n) ∧
      ∀ u w, u < n → w < n → (bitT r.1.1 u w = true ↔ bitT T u w = true ∨ ((u : Int) ∈ nbrV T gone v n ∧ (w : Int) ∈ nbrV T gone v n ∧ u ≠ w))) := by
  unfold d_sparseref16q_Elimination_Eliminate
  simp only [Neighbours_eq hT hr hg hn hv, Option.bind_some]
  have hLl := nbrV_length T gone v n
  have hLr : ∀ x ∈ nbrV T gone v n, ∃ w : Nat, x = (w : Int) ∧ w < n := fun x hx => nbrV_rng hx
  have hLs := nbrV_asc T gone v n
  generalize nbrV T gone v n = L at hLl hLr hLs
  have uniq : ∀ k k' : Nat, (h : k < L.length) → (h' : k' < L.length) → L[k] = L[k'] → k = k' := fun k k' h h' e => by
    rcases Nat.lt_trichotomy k k' with g | g | g
    · have := (List.pairwise_iff_getElem.1 hLs) k k' h h' g; omega
    · exact g
    · have := (List.pairwise_iff_getElem.1 hLs) k' k h' h g; omega
  simp only [Ok.bind_iff]
  refine Ok.mono (P := fun q : ((List (List Bool)) × ((List Bool) × Unit)) × Unit => q.1.2.1 = gone ∧ q.1.1.length = n ∧ (∀ v, (h : v < q.1.1.length) → q.1.1[v].length = n) ∧
      ∀ u w, u < n → w < n → (bitT q.1.1 u w = true ↔ bitT T u w = true ∨ ((u : Int) ∈ L ∧ (w : Int) ∈ L ∧ u ≠ w))) ?_ ?_
  · refine Ok.for (i0 := 0) L.length (fun i q => q.1.2.1 = gone ∧ q.1.1.length = n ∧ (∀ v, (h : v < q.1.1.length) → q.1.1[v].length = n) ∧
      ∀ u w, u < n → w < n → (bitT q.1.1 u w = true ↔ bitT T u w = true ∨ ((u : Int) ∈ L.take i ∧ (w : Int) ∈ L ∧ u ≠ w))) rfl ⟨rfl, hT, hr, fun u w _ _ => by simp⟩ (Nat.zero_le _) ?_ ?_
    · rintro i ⟨⟨T1, g1, _⟩, _⟩ _ hi ⟨h1, h2, h3, h4⟩
      simp only at h1 h2 h3 h4
      simp only [Ok.bif_iff, Ok.bind_iff]
      refine ⟨fun _ => ?_, fun hf => by simp at hf; omega⟩
      refine Ok.mono (P := fun q : ((List (List Bool)) × ((List Bool) × Unit)) × Unit => q.1.2.1 = gone ∧ q.1.1.length = n ∧ (∀ v, (h : v < q.1.1.length) → q.1.1[v].length = n) ∧
        ∀ u w, u < n → w < n → (bitT q.1.1 u w = true ↔ bitT T u w = true ∨ ((u : Int) ∈ L.take (i + 1) ∧ (w : Int) ∈ L ∧ u ≠ w))) ?_ (by rintro ⟨e, _⟩ h; simp only [Ok.some_iff]; exact ⟨wrap_succ (by omega), h⟩)
      obtain ⟨a, ha, han⟩ := hLr _ (List.getElem_mem hi)
      refine Ok.for (i0 := 0) L.length (fun j q => q.1.2.1 = gone ∧ q.1.1.length = n ∧ (∀ v, (h : v < q.1.1.length) → q.1.1[v].length = n) ∧
        ∀ u w, u < n → w < n → (bitT q.1.1 u w = true ↔ bitT T u w = true ∨ ((u : Int) ∈ L.take i ∧ (w : Int) ∈ L ∧ u ≠ w) ∨ (u = a ∧ (w : Int) ∈ L.take j ∧ u ≠ w))) rfl ⟨h1, h2, h3, fun u w hu hw => by rw [h4 u w hu hw]; simp⟩ (Nat.zero_le _) ?_ ?_
      · rintro j ⟨⟨T2, g2, _⟩, _⟩ _ hj ⟨k1, k2, k3, k4⟩
        simp only at k1 k2 k3 k4
        obtain ⟨b, hb, hbn⟩ := hLr _ (List.getElem_mem hj)
        have ga : getI L (i : Int) = some (a : Int) := getN_some (by rw [List.getElem?_eq_getElem hi, ha])
        have gb : getI L (j : Int) = some (b : Int) := getN_some (by rw [List.getElem?_eq_getElem hj, hb])
        have haT : a < T2.length := by omega
        have hbT : b < T2[a].length := by rw [k3 a haT]; exact hbn
        simp only [Ok.bif_iff, Ok.bind_iff, ga, gb, Ok.some_iff, Ok.idxN_iff, Ok.atO_iff, Ok.map_iff, Int.toNat_natCast]
        refine ⟨fun _ => ⟨fun hne => ⟨⟨by omega, haT⟩, haT, ⟨by omega, hbT⟩, haT, hbT, wrap_succ (by omega), k1, by simpa using k2, fun x hx => ?_, fun u w hu hw => ?_⟩, fun heq => ⟨wrap_succ (by omega), k1, k2, k3, fun u w hu hw => ?_⟩⟩, fun hf => by simp at hf; omega⟩
        · rw [List.getElem_set]
          split
          · rw [List.length_set]; exact k3 a haT
          · exact k3 x (by simpa using hx)
        · have hne : i ≠ j := by simp at hne; omega
          have hab : a ≠ b := fun e => hne (uniq i j hi hj (by rw [ha, hb, e]))
          rw [bit_set haT hbT, Bool.or_eq_true, k4 u w hu hw, ← take_snoc hj, hb, List.mem_append, List.mem_singleton]
          simp only [Bool.and_eq_true, beq_iff_eq]
          constructor
          · rintro ((h | h | ⟨h, h', h''⟩) | ⟨h, h'⟩)
            · exact .inl h
            · exact .inr (.inl h)
            · exact .inr (.inr ⟨h, .inl h', h''⟩)
            · exact .inr (.inr ⟨h, .inr (by omega), by omega⟩)
          · rintro (h | h | ⟨h, h' | h', h''⟩)
            · exact .inl (.inl h)
            · exact .inl (.inr (.inl h))
            · exact .inl (.inr (.inr ⟨h, h', h''⟩))
            · exact .inr ⟨h, by omega⟩
        · have hij : i = j := by simp at heq; omega
          have hab : a = b := by
            subst hij
            rw [ha] at hb; omega
          rw [k4 u w hu hw, ← take_snoc hj, hb, List.mem_append, List.mem_singleton]
          constructor
          · rintro (h | h | ⟨h, h', h''⟩)
            · exact .inl h
            · exact .inr (.inl h)
            · exact .inr (.inr ⟨h, .inl h', h''⟩)
          · rintro (h | h | ⟨h, h' | h', h''⟩)
            · exact .inl h
            · exact .inr (.inl h)
            · exact .inr (.inr ⟨h, h', h''⟩)
            · omega
      · rintro ⟨⟨T2, g2, _⟩, _⟩ ⟨k1, k2, k3, k4⟩
        simp only at k1 k2 k3 k4
        simp only [Ok.bif_iff, Ok.some_iff]
        refine ⟨fun hf => by simp at hf, fun _ => ⟨k1, k2, k3, fun u w hu hw => ?_⟩⟩
        rw [k4 u w hu hw, List.take_length, ← take_snoc hi, ha, List.mem_append, List.mem_singleton]
        constructor
        · rintro (h | ⟨h, h', h''⟩ | ⟨h, h', h''⟩)
          · exact .inl h
          · exact .inr ⟨.inl h, h', h''⟩
          · exact .inr ⟨.inr (by omega), h', h''⟩
        · rintro (h | ⟨h | h, h', h''⟩)
          · exact .inl h
          · exact .inr (.inl ⟨h, h', h''⟩)
          · exact .inr (.inr ⟨by omega, h', h''⟩)
    · rintro ⟨⟨T1, g1, _⟩, _⟩ ⟨h1, h2, h3, h4⟩
      simp only at h1 h2 h3 h4
      simp only [Ok.bif_iff, Ok.some_iff]
      refine ⟨fun hf => by simp at hf, fun _ => ⟨h1, h2, h3, fun u w hu hw => ?_⟩⟩
      rw [h4 u w hu hw, List.take_length]
  · rintro ⟨⟨T1, g1, _⟩, _⟩ ⟨h1, h2, h3, h4⟩
    simp only at h1 h2 h3 h4
    subst h1
    simp only [Ok.bind_iff, Ok.idxN_iff, Ok.atO_iff, Ok.some_iff, Ok.map_iff, Int.toNat_natCast]
    exact ⟨⟨by omega, by omega⟩, by omega, trivial, h2, h3, h4⟩
theorem Eliminate_ok {adj : List (List Int)} (hV : Valid adj) (hn : adj.length ≤ 4294967296) {S : Nat → Prop} {T : List (List Bool)} {gone : List Bool} (h : Elim adj S T gone) {v : Nat} (hv : v < adj.length) (hS : ¬ S v) :
    Ok (d_sparseref16q_Elimination_Eliminate ((T, gone, ()), (v : Int), ())) (fun r => Elim adj (fun x => S x ∨ x = v) r.1.1 r.1.2.1) := by
  refine (Eliminate_tab h.tl h.rows h.gl hn hv).mono ?_
  rintro ⟨⟨T1, g1, _⟩, _⟩ ⟨h1, h2, h3, h4⟩
  simp only at h1 h2 h3 h4 ⊢
  subst h1
  have hs := Nb.symm hV
  refine ⟨h2, h3, by rw [List.length_set]; exact h.gl, fun x hx => ?_, fun u w hu hw hSu hSw => ?_⟩
  · rw [List.getElem_set]
    by_cases hxv : v = x
    · rw [if_pos hxv]; simp [hxv]
    · rw [if_neg hxv, h.gi]
      constructor
      · exact .inl
      · rintro (g | g)
        · exact g
        · exact absurd g.symm hxv
  · have hul : u < adj.length := by omega
    have hwl : w < adj.length := by rw [h3 u hu] at hw; exact hw
    have := h4 u w hul hwl
    rw [bitT_get hu hw] at this
    have huT : u < T.length := by rw [h.tl]; exact hul
    have hwT : w < T[u].length := by rw [h.rows u huT]; exact hwl
    have nu : ¬ S u := fun g => hSu (.inl g)
    have nw : ¬ S w := fun g => hSw (.inl g)
    have uv : v ≠ u := fun g => hSu (.inr g.symm)
    have wv : v ≠ w := fun g => hSw (.inr g.symm)
    rw [this, bitT_get huT hwT, h.ti u w huT hwT nu nw, mem_nbrV h hv hS, mem_nbrV h hv hS, WalkP.insert_iff]
    constructor
    · rintro (⟨g1, g2⟩ | ⟨⟨_, _, _, g2⟩, ⟨_, _, _, g4⟩, g5⟩)
      · exact ⟨g1, .inl g2⟩
      · exact ⟨g5, .inr ⟨g2.symm hs, g4⟩⟩
    · rintro ⟨g1, g2 | ⟨g2, g3⟩⟩
      · exact .inl ⟨g1, g2⟩
      · exact .inr ⟨⟨hul, nu, uv, g2.symm hs⟩, ⟨hwl, nw, wv, g3⟩, g1⟩
theorem Begin_ok {adj : List (List Int)} (hV : Valid adj) (hc : ∀ l ∈ adj, l.length < 4611686018427387904) (hn : adj.length ≤ 200) :
    Ok (d_sparseref16q_Begin ((adj, ()), ())) (fun r => Elim adj (fun _ => False) r.1.1 r.1.2.1) := by
  unfold d_sparseref16q_Begin
  have hlim : lim = 4294967296 := rfl
  simp only [Table_eq hc hn (fun v hv => (hV.asc v hv).2), Option.bind_some, Ok.bind_iff, Ok.madeO_iff, Ok.some_iff, Int.toNat_natCast]
  refine ⟨⟨by omega, by omega, by omega⟩, tabT_length adj, fun v h => ?_, by simp, fun v h => by simp, fun u w hu hw _ _ => ?_⟩
  · simp [tabT]
  · rw [WalkP.none]
    have hul : u < adj.length := by rw [tabT_length] at hu; exact hu
    have hwl : w < adj.length := by simp [tabT] at hw; exact hw
    have e : (tabT adj)[u][w] = decide ((w : Int) ∈ adj[u]) := by simp [tabT, List.getD, hul]
    rw [e, decide_eq_true_eq]
    constructor
    · exact fun hm => ⟨Nb.ne hV ⟨hul, hm⟩, hul, hm⟩
    · exact fun hm => hm.2.2
end Go.Fw
end

section
set_option linter.unusedSimpArgs false
set_option linter.unusedVariables false
namespace Go.Fw
theorem asc_ge {l : List Int} (h : l.Pairwise (· < ·)) (h0 : ∀ x ∈ l, 0 ≤ x) : ∀ k, (hk : k < l.length) → (k : Int) ≤ l[k] := by
  intro k
  induction k with
  | zero => intro hk; exact h0 _ (List.getElem_mem hk)
  | succ k ih =>
    intro hk
    have h1 := ih (by omega)
    have h2 := pairwise_iff.1 h k hk
    omega
theorem AscIn.length {l : List Int} {n : Nat} (h : AscIn l n) : l.length ≤ n := by
  rcases Nat.eq_zero_or_pos l.length with h0 | h0
  · omega
  · have h1 := asc_ge h.1 (fun x hx => (h.2 x hx).1) (l.length - 1) (by omega)
    have h2 := (h.2 _ (List.getElem_mem (show l.length - 1 < l.length by omega))).2
    omega
theorem Valid.rows {adj : List (List Int)} (hV : Valid adj) : ∀ l ∈ adj, l.length ≤ adj.length := by
  intro l hl
  obtain ⟨v, hv, rfl⟩ := List.mem_iff_getElem.1 hl
  exact (hV.asc v hv).length
theorem Valid.hc {adj : List (List Int)} (hV : Valid adj) (hn : adj.length ≤ 200) : ∀ l ∈ adj, l.length < 4611686018427387904 := fun l hl => by
  have := hV.rows l hl; omega
theorem chk_zero {adj : List (List Int)} : chk adj = 0 ↔ adj.length ≤ 200 ∧ Valid adj := by
  unfold chk
  by_cases h : 200 < adj.length
  · rw [if_pos h]; constructor
    · intro h; omega
    · intro h; omega
  · rw [if_neg h]
    by_cases h2 : Valid adj
    · rw [if_pos h2]; exact ⟨fun _ => ⟨by omega, h2⟩, fun _ => rfl⟩
    · rw [if_neg h2]; exact ⟨fun h => by omega, fun h => absurd h.2 h2⟩
end Go.Fw
end

section
set_option linter.unusedSimpArgs false
set_option linter.unusedVariables false
namespace Go.Fw
section
variable {P Q : Nat → Prop} {k : Nat}
end
def PF (n : Nat) (f : Nat → Int) : Prop := ∀ j, j < n → f j = -1 ∨ ((j : Int) < f j ∧ f j < n)
section
variable {n : Nat} {f : Nat → Int} (hf : PF n f)
include hf
end
end Go.Fw
end

section
set_option linter.unusedSimpArgs false
set_option linter.unusedVariables false
namespace Go.Fw
def natL (l : List Nat) : List Int := l.map fun (x : Nat) => (x : Int)
theorem natL_append (a b : List Nat) : natL (a ++ b) = natL a ++ natL b := by simp [natL]
theorem natL_length (a : List Nat) : (natL a).length = a.length := by simp [natL]
section
variable {n : Nat} {f : Nat → Int} (hf : PF n f) (hn : n ≤ 200)
include hf hn
end
end Go.Fw
end

section
set_option linter.unusedSimpArgs false
set_option linter.unusedVariables false
namespace Go.Fw
theorem getD_lt {α : Type} {l : List α} {i : Nat} (h : i < l.length) (d : α) : l.getD i d = l[i] := by
  simp only [List.getD, List.getElem?_eq_getElem h, Option.getD_some]
section
variable {adj : List (List Int)} (hV : Valid adj) (hn : adj.length ≤ 200)
include hV hn
end
end Go.Fw
end

section
set_option linter.unusedSimpArgs false
set_option linter.unusedVariables false
namespace Go.Fw
theorem place_nat (a n : Int) (h : 0 < n) : ∃ m : Nat, placeV a n = (m : Int) ∧ (m : Int) < n := by
  have := placeV_lt a n h
  exact ⟨(placeV a n).toNat, by omega, by omega⟩
end Go.Fw
end

section
namespace Go.Fw
set_option linter.unusedSimpArgs false
set_option linter.unusedVariables false
structure SOrd {α : Type} (lt : α → α → Bool) : Prop where
  asym : ∀ a b, lt a b = true → lt b a = false
  trans : ∀ a b c, lt b a = false → lt c b = false → lt c a = false
theorem SOrd.int : SOrd (fun a b : Int => decide (a < b)) := ⟨fun a b h => by simp at h ⊢; omega, fun a b c h1 h2 => by simp at h1 h2 ⊢; omega⟩
def InsI {α : Type} (lt : α → α → Bool) (g : Nat → α) (i j : Nat) : Prop := ∀ p q, p < q → q ≤ i → q ≠ j → lt (g q) (g p) = false
def SortedI {α : Type} (lt : α → α → Bool) (g : Nat → α) (k : Nat) : Prop := ∀ p q, p < q → q < k → lt (g q) (g p) = false
def swp {α : Type} (g : Nat → α) (j : Nat) : Nat → α := upd (upd g j (g (j - 1))) (j - 1) (g j)
theorem swp_at {α : Type} (g : Nat → α) {j : Nat} (k : Nat) : swp g j k = if k = j - 1 then g j else if k = j then g (j - 1) else g k := rfl
theorem InsI.swp {α : Type} {lt : α → α → Bool} (h : SOrd lt) {g : Nat → α} {i j : Nat} (hI : InsI lt g i j) (hj : 0 < j) (hji : j ≤ i) (hl : lt (g j) (g (j - 1)) = true) : InsI lt (swp g j) i (j - 1) := by
  intro p q hpq hq hne
  rw [swp_at, swp_at, if_neg hne]
  by_cases h1 : q = j
  · subst h1
    rw [if_pos rfl]
    by_cases h2 : p = q - 1
    · rw [if_pos h2]; exact h.asym _ _ hl
    · rw [if_neg h2, if_neg (by omega)]; exact hI p (q - 1) (by omega) (by omega) (by omega)
  · rw [if_neg h1]
    by_cases h2 : p = j - 1
    · rw [if_pos h2]; exact hI j q (by omega) hq h1
    · rw [if_neg h2]
      by_cases h3 : p = j
      · rw [if_pos h3]; exact hI (j - 1) q (by omega) hq h1
      · rw [if_neg h3]; exact hI p q hpq hq h1
theorem InsI.done {α : Type} {lt : α → α → Bool} (h : SOrd lt) {g : Nat → α} {i j : Nat} (hI : InsI lt g i j) (hji : j ≤ i) (hl : j = 0 ∨ lt (g j) (g (j - 1)) = false) : SortedI lt g (i + 1) := by
  intro p q hpq hq
  by_cases h1 : q = j
  · subst h1
    rcases hl with hl | hl
    · omega
    · by_cases h2 : p = q - 1
      · subst h2; exact hl
      · exact h.trans _ _ _ (hI p (q - 1) (by omega) (by omega) (by omega)) hl
  · exact hI p q hpq (by omega) h1
theorem swp_perm {α : Type} {n : Nat} {g : Nat → α} {j : Nat} (hj : 0 < j) (hn : j < n) : (fT n (swp g j)).Perm (fT n g) := by
  have h1 : j < (fT n g).length := by rw [fT_length]; exact hn
  have h2 : j - 1 < (fT n g).length := by rw [fT_length]; omega
  have := List.set_set_perm h1 h2
  rw [fT_getElem, fT_getElem, fT_set, fT_set] at this
  exact this
theorem fT_self {α : Type} [Inhabited α] (l : List α) : l = fT l.length (fun i => l[i]?.getD default) := fT_of l _ (fun i hi => by simp [hi])
theorem insertion_ok (l : List Int) (hl : l.length ≤ 1000) : Ok (d_slices_insertionSortOrdered_int (l, 0, (l.length : Int), ())) (fun r => ∃ g, r.1 = fT l.length g ∧ SortedI (fun a b => decide (a < b)) g l.length ∧ r.1.Perm l) := by
  unfold d_slices_insertionSortOrdered_int
  simp only []
  generalize hn : l.length = n at *
  have h0 : IntKind.i64.wrap (0 + 1) = ((1 : Nat) : Int) := by rw [wrap64] <;> omega
  rw [h0]
  rcases Nat.eq_zero_or_pos n with hz | hpos
  · subst hz
    refine Ok.bind_of (P := fun r => r.1 = l) ?_ ?_
    · refine Ok.loop (fun s => s = (((1 : Nat) : Int), l, ())) (fun _ => 0) rfl ?_
      rintro _ rfl
      simp only [cond_dec]
      rw [if_neg (by omega)]
      exact Ok.some_iff.2 rfl
    · rintro ⟨r, _⟩ rfl
      refine Ok.some_iff.2 ⟨fun _ => 0, ?_, fun p q h1 h2 => by omega, List.Perm.refl _⟩
      show r = []
      exact List.eq_nil_of_length_eq_zero hn
  refine Ok.bind_of (P := fun r => ∃ g, r.1 = fT n g ∧ SortedI (fun a b => decide (a < b)) g n ∧ r.1.Perm l) ?_ (fun r hr => Ok.some_iff.2 hr)
  refine Ok.for n (fun i t => ∃ g, t = (fT n g, ()) ∧ SortedI (fun a b => decide (a < b)) g i ∧ (fT n g).Perm l) rfl ⟨fun i => l[i]?.getD default, ?_, fun p q h1 h2 => by omega, ?_⟩ hpos ?_ ?_
  · rw [← hn, ← fT_self]
  · rw [← hn, ← fT_self]
  · rintro i _ h1 h2 ⟨g, rfl, hS, hP⟩
    simp only [cond_dec]
    rw [if_pos (by omega)]
    refine Ok.bind_of (P := fun r => ∃ g, r = (fT n g, ()) ∧ SortedI (fun a b => decide (a < b)) g (i + 1) ∧ (fT n g).Perm l) ?_ ?_
    · refine Ok.loop (fun s => ∃ (j : Nat) (g : Nat → Int), s = ((j : Int), fT n g, ()) ∧ j ≤ i ∧ InsI (fun a b => decide (a < b)) g i j ∧ (fT n g).Perm l) (fun s => s.1.toNat) ⟨i, g, rfl, Nat.le_refl _, fun p q hpq hq hne => hS p q hpq (by omega), hP⟩ ?_
      rintro _ ⟨j, g, rfl, hj, hI, hP⟩
      simp only [cond_dec_beq]
      by_cases hj0 : 0 < j
      · have hj1 : j - 1 < n := by omega
        have hj2 : j < n := by omega
        simp (disch := omega) only [if_pos, fT_length, wrap_pred, idxN_nat, atO_fT, Option.bind_some, Less_eq, cond_dec]
        by_cases hlt : g j < g (j - 1)
        · rw [if_pos hlt]
          simp (disch := omega) only [Option.bind_some, fT_length, wrap_pred, idxN_nat, atO_fT, fT_set]
          refine Ok.some_iff.2 ⟨⟨j - 1, swp g j, rfl, by omega, hI.swp SOrd.int hj0 hj (by simpa using hlt), (swp_perm hj0 hj2).trans hP⟩, ?_⟩
          show ((j - 1 : Nat) : Int).toNat < ((j : Nat) : Int).toNat
          omega
        · rw [if_neg hlt]
          exact Ok.some_iff.2 ⟨g, rfl, hI.done SOrd.int hj (.inr (by simpa using hlt)), hP⟩
      · rw [if_neg (by omega)]
        exact Ok.some_iff.2 ⟨g, rfl, hI.done SOrd.int hj (.inl (by omega)), hP⟩
    · rintro _ ⟨g, rfl, hS, hP⟩
      simp (disch := omega) only [wrap_inc]
      exact Ok.some_iff.2 ⟨rfl, g, rfl, hS, hP⟩
  · rintro _ ⟨g, rfl, hS, hP⟩
    simp only [cond_dec]
    rw [if_neg (by omega)]
    exact Ok.some_iff.2 ⟨g, rfl, hS, hP⟩
theorem SortedI.pairwise {g : Nat → Int} {n : Nat} (h : SortedI (fun a b => decide (a < b)) g n) : (fT n g).Pairwise (· ≤ ·) := by
  rw [List.pairwise_iff_getElem]
  intro i j hi hj hij
  rw [fT_getElem, fT_getElem]
  have := h i j hij (by simpa [fT_length] using hj)
  simpa using this
theorem Len_ok (n : Nat) (hn : n ≤ 12) : ∃ b, d_math_bits_Len ((n : Int), ()) = some (b, ()) := by
  have : n = 0 ∨ n = 1 ∨ n = 2 ∨ n = 3 ∨ n = 4 ∨ n = 5 ∨ n = 6 ∨ n = 7 ∨ n = 8 ∨ n = 9 ∨ n = 10 ∨ n = 11 ∨ n = 12 := by omega
  rcases this with rfl | rfl | rfl | rfl | rfl | rfl | rfl | rfl | rfl | rfl | rfl | rfl | rfl
  · exact ⟨0, by kernel_rfl⟩
  · exact ⟨1, by kernel_rfl⟩
  · exact ⟨2, by kernel_rfl⟩
  · exact ⟨2, by kernel_rfl⟩
  · exact ⟨3, by kernel_rfl⟩
  · exact ⟨3, by kernel_rfl⟩
  · exact ⟨3, by kernel_rfl⟩
  · exact ⟨3, by kernel_rfl⟩
  · exact ⟨4, by kernel_rfl⟩
  · exact ⟨4, by kernel_rfl⟩
  · exact ⟨4, by kernel_rfl⟩
  · exact ⟨4, by kernel_rfl⟩
  · exact ⟨4, by kernel_rfl⟩
theorem pdq_small (l : List Int) (b : Int) (hl : l.length ≤ 12) : Ok (d_slices_pdqsortOrdered_int (l, 0, (l.length : Int), b, ())) (fun r => r.1.Pairwise (· ≤ ·) ∧ r.1.Perm l) := by
  obtain ⟨r, hr, g, hg, hS, hP⟩ := insertion_ok l (by omega)
  refine ⟨r, ?_, by rw [hg]; exact hS.pairwise, hP⟩
  unfold d_slices_pdqsortOrdered_int
  show fixO (deep r_slices_pdqsortOrdered_intq_s) _ = some r
  rw [fixO_iff r_slices_pdqsortOrdered_intq_mono]
  refine ⟨1, ?_⟩
  have e1 : deep r_slices_pdqsortOrdered_intq_s 1 (l, 0, (l.length : Int), b, ()) = r_slices_pdqsortOrdered_intq_s (deep r_slices_pdqsortOrdered_intq_s 0) (l, 0, (l.length : Int), b, ()) := rfl
  rw [e1]
  unfold r_slices_pdqsortOrdered_intq_s
  dsimp only
  rw [loop_unfold]
  dsimp only
  have hw : IntKind.i64.wrap ((l.length : Int) - 0) = ((l.length : Nat) : Int) := by rw [Int.sub_zero]; exact wrapN (by omega)
  simp only [hw, cond_dec]
  rw [if_pos (by omega), hr]
  rfl
theorem Sort_ok (l : List Int) (hl : l.length ≤ 12) : Ok (d_slices_Sort_int_int (l, ())) (fun r => r.1.Pairwise (· ≤ ·) ∧ r.1.Perm l) := by
  unfold d_slices_Sort_int_int
  simp only []
  rw [wrapUq_eq _ (by omega) (by omega)]
  obtain ⟨b, hb⟩ := Len_ok l.length hl
  rw [hb]
  simp only [Option.bind_some]
  exact Ok.bind_of (pdq_small l b hl) (fun r hr => Ok.some_iff.2 hr)
end Go.Fw
end

section
namespace Go.Fw
set_option linter.unusedSimpArgs false
set_option linter.unusedVariables false
open Go
theorem compact_lt {ys : List Int} (hs : ys.Pairwise (· ≤ ·)) : (Lib.compact ys).length < ys.length ↔ ¬ ys.Nodup := by
  have hlen : (Lib.compact ys).length = ((List.range ys.length).filter (Lib.keeps ys.toArray)).length := by simp [Lib.compact, Lib.compactUpTo]
  have hadj : (∀ j, j < ys.length → Lib.keeps ys.toArray j = true) ↔ ys.Nodup := by
    have hk : ∀ j, (h : j < ys.length) → (Lib.keeps ys.toArray j = true ↔ j = 0 ∨ ys[j] ≠ ys[j - 1]) := fun j h => by
      have h2 : j - 1 < ys.length := by omega
      simp [Lib.keeps, h, h2]
    constructor
    · intro h
      have hlt : ys.Pairwise (· < ·) := by
        rw [pairwise_iff]
        intro k hk2
        have h1 := (hk (k + 1) hk2).1 (h _ hk2)
        have h2 := List.pairwise_iff_getElem.1 hs k (k + 1) (by omega) hk2 (by omega)
        have h3 : ys[k + 1] ≠ ys[k] := by rcases h1 with h1 | h1; omega; exact h1
        omega
      exact hlt.imp (fun h => by omega)
    · intro h j hj
      rw [hk j hj]
      by_cases h0 : j = 0
      · exact .inl h0
      · refine .inr fun e => ?_
        have := (List.getElem_inj h).1 e
        omega
  rw [← hadj, hlen]
  have hle := List.length_filter_le (Lib.keeps ys.toArray) (List.range ys.length)
  rw [List.length_range] at hle
  constructor
  · intro h h2
    rw [List.filter_eq_self.2 (fun j hj => h2 j (List.mem_range.1 hj)), List.length_range] at h
    omega
  · intro h
    rcases Nat.lt_or_ge ((List.range ys.length).filter (Lib.keeps ys.toArray)).length ys.length with h1 | h1
    · exact h1
    · refine absurd (fun j hj => ?_) h
      have e : ((List.range ys.length).filter (Lib.keeps ys.toArray)).length = (List.range ys.length).length := by rw [List.length_range]; omega
      exact List.length_filter_eq_length_iff.1 e j (List.mem_range.2 hj)
theorem twice_eq (l : List Int) (hl : l.length ≤ 12) : d_graph_twice (l, ()) = some (decide (¬ l.Nodup), ()) := by
  obtain ⟨r, hr, hs, hp⟩ := Sort_ok l hl
  have hlen := hp.length_eq
  unfold d_graph_twice twSem
  simp only [hr, Option.map_some, Option.bind_some]
  rw [show Nat.ble l.length 1000000 = true from Nat.ble_eq_true_of_le (by omega)]
  simp only [cond_true]
  rw [show Nat.ble r.1.length 1000000 = true from Nat.ble_eq_true_of_le (by omega)]
  simp only [cond_true, Option.map_some]
  have e : decide ((Lib.compact r.1).length < l.length) = decide (¬ l.Nodup) := by
    rw [decide_eq_decide, ← hlen, compact_lt hs, hp.nodup_iff]
  rw [e]
end Go.Fw
end

section
namespace Go.Fw
set_option linter.unusedSimpArgs false
set_option linter.unusedVariables false
open Go
def IsPerm (l : List Int) (n : Nat) : Prop := l.length = n ∧ (∀ x ∈ l, 0 ≤ x ∧ x < (n : Int)) ∧ l.Nodup
open Classical in
theorem Perm_eq (l : List Int) (n : Nat) (hn : n ≤ 4294967296) : d_sparsekit_Perm (l, (n : Int), ()) = some (decide (IsPerm l n), ()) := by
  unfold d_sparsekit_Perm
  simp only [bneI]
  by_cases hl : l.length = n
  · rw [decT (show (((l.length : Nat) : Int) = (n : Int)) by omega)]
    simp only [Bool.not_true, cond_false, madeO_ok hn, Option.bind_some, fT_replicate]
    rw [← Ok.eq_iff]
    refine Ok.bind_of (P := fun q => match q with | .inl _ => IsPerm l n | .inr r => r = (false, ()) ∧ ¬ IsPerm l n) ?_ ?_
    · refine Ok.for n (fun i t => t = (fT n (fun v => decide ((v : Int) ∈ l.take i)), ()) ∧ (∀ k, (h : k < l.length) → k < i → 0 ≤ l[k] ∧ l[k] < (n : Int)) ∧ (l.take i).Nodup) (i0 := 0) rfl ⟨by simp, fun k _ h => by omega, by simp⟩ (Nat.zero_le _) ?_ ?_
      · rintro i _ _ hi ⟨rfl, hr, hd⟩
        have hil : i < l.length := by omega
        have hg : getI l (i : Int) = some l[i] := getN_some (List.getElem?_eq_getElem hil)
        have hmem : l[i] ∈ l := List.getElem_mem hil
        simp (disch := omega) only [cond_dec, if_pos, hg, Option.bind_some, cond_dec_beqF]
        by_cases c1 : l[i] < 0
        · rw [if_pos c1]
          exact Ok.some_iff.2 ⟨rfl, fun h => by have := h.2.1 _ hmem; omega⟩
        rw [if_neg c1]
        by_cases c2 : l[i] ≥ (n : Int)
        · rw [if_pos c2]
          exact Ok.some_iff.2 ⟨rfl, fun h => by have := h.2.1 _ hmem; omega⟩
        rw [if_neg c2]
        obtain ⟨x, hx⟩ : ∃ x : Nat, l[i] = (x : Int) := ⟨l[i].toNat, by omega⟩
        have hxn : x < n := by omega
        rw [hx]
        simp (disch := omega) only [fT_length, idxN_nat, Option.bind_some, atO_fT, cond_dec]
        by_cases c3 : (x : Int) ∈ l.take i
        · rw [if_pos c3]
          refine Ok.some_iff.2 ⟨rfl, fun h => ?_⟩
          obtain ⟨m, hm1, hm2⟩ := List.mem_iff_getElem.1 c3
          simp only [List.length_take] at hm1
          simp only [List.getElem_take] at hm2
          have := (List.getElem_inj h.2.2).1 (hm2.trans hx.symm)
          omega
        rw [if_neg c3]
        simp (disch := omega) only [Option.bind_some, hg, hx, fT_length, idxN_nat, atO_fT, fT_set, wrap_inc]
        have ht : l.take (i + 1) = l.take i ++ [(x : Int)] := by rw [← take_snoc hil, hx]
        refine Ok.some_iff.2 ⟨rfl, ?_, fun k hk hki => ?_, ?_⟩
        · show ((_, ()) : _ × Unit) = _
          refine congrArg (·, ()) (fT_congr fun v _ => ?_)
          simp only [upd]
          rw [ht]
          by_cases h : v = x
          · subst h
            rw [if_pos rfl, decT (List.mem_append_right _ (List.mem_singleton_self _))]
          · rw [if_neg h, decide_eq_decide, List.mem_append, List.mem_singleton]
            exact ⟨.inl, fun h' => h'.resolve_right (by omega)⟩
        · by_cases h : k = i
          · subst h; omega
          · exact hr k hk (by omega)
        · rw [ht, List.nodup_append]
          refine ⟨hd, by simp, fun a ha b hb e => ?_⟩
          rw [List.mem_singleton] at hb
          rw [e, hb] at ha; exact c3 ha
      · rintro _ ⟨rfl, hr, hd⟩
        simp (disch := omega) only [cond_dec, if_neg]
        refine Ok.some_iff.2 ⟨hl, fun y hy => ?_, ?_⟩
        · obtain ⟨m, hm, rfl⟩ := List.mem_iff_getElem.1 hy
          exact hr m hm (by omega)
        · rw [List.take_of_length_le (by omega)] at hd; exact hd
    · rintro (q | q) hq
      · exact Ok.some_iff.2 (by rw [decT (show IsPerm l n from hq)])
      · exact Ok.some_iff.2 (by rw [hq.1, decF hq.2])
  · rw [decF (show ¬ (((l.length : Nat) : Int) = (n : Int)) by omega)]
    simp only [Bool.not_false, cond_true]
    rw [decF (fun h => hl h.1)]
noncomputable def permE (adj : List (List Int)) (o : List Int) : Int := open Classical in if chk adj ≠ 0 then chk adj else if o.length ≠ adj.length then 2 else if IsPerm o adj.length then 0 else 90
theorem vertex_eq (adj : List (List Int)) (v : Int) : d_graph_vertex ((adj, ()), v, ()) = some (decide (0 ≤ v ∧ v < (adj.length : Int)), ()) := by
  unfold d_graph_vertex
  simp only [cond_dec_beq]
  by_cases h : v ≥ 0
  · rw [if_pos h]
    congr 2
    exact decide_eq_decide.2 ⟨fun h2 => ⟨h, h2⟩, fun h2 => h2.2⟩
  · rw [if_neg h, decF (fun h2 => h h2.1)]
theorem outside_eq (adj : List (List Int)) (o : List Int) (ho : o.length < 4611686018427387904) : d_slices_ContainsFunc_int_int_q0 (o, ((some (adj, ())), ()), ()) = some (decide (¬ ∀ x ∈ o, 0 ≤ x ∧ x < (adj.length : Int)), ()) := by
  classical
  unfold d_slices_ContainsFunc_int_int_q0 d_slices_IndexFunc_int_int_q0
  simp only []
  rw [← Ok.eq_iff]
  have hall : (∀ x ∈ o, 0 ≤ x ∧ x < (adj.length : Int)) ↔ ∀ i, i < o.length → ∀ h : i < o.length, 0 ≤ o[i] ∧ o[i] < (adj.length : Int) :=
    ⟨fun h i _ hi => h _ (List.getElem_mem hi), fun h x hx => by obtain ⟨i, hi, rfl⟩ := List.mem_iff_getElem.1 hx; exact h i hi hi⟩
  refine Ok.bind_of (P := fun r => decide (r.1 ≥ 0) = decide (¬ ∀ x ∈ o, 0 ≤ x ∧ x < (adj.length : Int))) ?_ (fun r hr => Ok.some_iff.2 (by rw [hr]))
  refine Ok.bind_of (loop_index o.length (fun i => ∀ h : i < o.length, 0 ≤ o[i] ∧ o[i] < (adj.length : Int)) ?_ ?_) ?_
  · intro i hi
    simp (disch := omega) only [cond_dec, if_pos, getN_some (List.getElem?_eq_getElem hi), Option.bind_some, wrap_inc]
    unfold d_graph_Permuted_1q_q0
    simp only [Option.bind_some, vertex_eq]
    by_cases h : 0 ≤ o[i] ∧ o[i] < (adj.length : Int)
    · rw [decT h, if_pos (fun _ => h)]; rfl
    · rw [decF h, if_neg (fun h2 => h (h2 hi))]; rfl
  · simp (disch := omega) only [cond_dec, if_neg]
  · rintro (q | q) hq
    · refine Ok.some_iff.2 ?_
      rw [decF (by decide), decF (fun h => h (hall.2 hq))]
    · refine Ok.some_iff.2 ?_
      rw [decT (show q.1 ≥ 0 from hq.1), decT (show ¬ ∀ x ∈ o, 0 ≤ x ∧ x < (adj.length : Int) from fun h => hq.2 (hall.1 h))]
theorem Permuted_eq {adj : List (List Int)} (hc : ∀ l ∈ adj, l.length < 4611686018427387904) (o : List Int) (ho : adj.length ≤ 200 → Valid adj → adj.length ≤ 12) (ho2 : o.length < 4611686018427387904) :
    d_graph_Permuted ((adj, ()), o, ()) = some (permE adj o, ()) := by
  classical
  unfold d_graph_Permuted permE
  simp only [Check_eq adj hc, Option.bind_some, bneI]
  by_cases h0 : chk adj = 0
  · obtain ⟨hn, hV⟩ := chk_zero.1 h0
    have h12 := ho hn hV
    rw [decT h0]
    simp only [Bool.not_true, cond_false, h0, ne_eq, not_true_eq_false, if_false]
    by_cases hl : o.length = adj.length
    · rw [decT (show (((o.length : Nat) : Int) = ((adj.length : Nat) : Int)) by omega)]
      simp only [Bool.not_true, cond_false, hl, not_true_eq_false, if_false]
      rw [outside_eq adj o ho2]
      simp only [Option.bind_some]
      by_cases h1 : ∀ x ∈ o, 0 ≤ x ∧ x < (adj.length : Int)
      · rw [decF (not_not_intro h1)]
        simp only [beq_self_eq_true, cond_true]
        rw [twice_eq o (by omega)]
        simp only [Option.bind_some, cond_dec]
        by_cases h2 : o.Nodup
        · rw [if_neg (not_not_intro h2), if_pos ⟨hl, h1, h2⟩]
        · rw [if_pos h2, if_neg (fun h => h2 h.2.2)]
      · rw [decT h1, if_neg (fun h => h1 h.2.1)]
        rfl
    · rw [decF (show ¬ (((o.length : Nat) : Int) = ((adj.length : Nat) : Int)) by omega)]
      simp only [Bool.not_false, cond_true, hl, not_false_eq_true, if_true]
  · rw [decF h0]
    simp only [Bool.not_false, cond_true, h0, ne_eq, not_false_eq_true, if_true]
end Go.Fw
end

section
namespace Go.Fw
set_option linter.unusedSimpArgs false
set_option linter.unusedVariables false
open Go
section
variable {adj : List (List Int)} (hc : ∀ l ∈ adj, l.length < 4611686018427387904)
include hc
end
theorem perm_iff {adj : List (List Int)} {o : List Int} (hn : adj.length ≤ 200) (hV : Valid adj) (hp : IsPerm o adj.length) : permE adj o = 0 := by
  unfold permE
  rw [if_neg (not_not_intro (chk_zero.2 ⟨hn, hV⟩)), if_neg (not_not_intro hp.1), if_pos hp]
end Go.Fw
end

section
namespace Go.Fw
set_option linter.unusedSimpArgs false
set_option linter.unusedVariables false
open Go
theorem perm_natL {o : List Int} {n : Nat} (h : o.Perm (natL (List.range n))) : IsPerm o n := by
  refine ⟨by rw [h.length_eq, natL_length, List.length_range], fun x hx => ?_, ?_⟩
  · obtain ⟨y, hy, rfl⟩ := List.mem_map.1 (h.mem_iff.1 hx)
    have := List.mem_range.1 hy; omega
  · rw [h.nodup_iff]
    exact List.Pairwise.map _ (fun a b hab e => hab (by omega)) List.nodup_range
theorem Shuffle_perm (l : List Int) (n : Nat) (hn : n ≤ 4000) : Ok (d_sparsekit_Shuffle (l, (n : Int), ())) (fun r => r.1.Perm (natL (List.range n))) := by
  unfold d_sparsekit_Shuffle
  simp only []
  have h1 : loop (σ := (Int × (List Int) × Unit)) (ρ := ((List Int) × Unit)) (fun (i_6, left_7, _) =>
      (bif (decide (i_6 < (n : Int))) then (
      (limO ((left_7).length + ([i_6]).length)).bind fun _ =>
      some (.inl ((IntKind.i64.wrap (i_6 + ((1) : Int))), (left_7 ++ [i_6]), ()))) else (
      some (.inr (left_7, ()))))) (((0) : Int), [], ()) = some (natL (List.range n), ()) := by
    refine loop_for n (fun i => (natL (List.range i), ())) 0 rfl rfl (Nat.zero_le _) ?_ ?_
    · intro i _ hi
      have : natL (List.range (i + 1)) = natL (List.range i) ++ [(i : Int)] := by rw [List.range_succ, natL_append]; rfl
      have hl : (natL (List.range i)).length + [((i : Nat) : Int)].length ≤ 4294967296 := by rw [natL_length, List.length_range]; simp only [List.length_singleton]; omega
      simp (disch := omega) only [cond_dec, if_pos, limO_ok hl, Option.bind_some, wrap_inc, this]
    · simp (disch := omega) only [cond_dec, if_neg]
  rw [h1]
  simp only [Option.bind_some]
  refine Ok.bind_of (P := fun r => r.1.Perm (natL (List.range n))) ?_ (fun r hr => Ok.some_iff.2 hr)
  refine Ok.for n (fun k t => t.1.length + k = n ∧ (t.1 ++ t.2.1).Perm (natL (List.range n))) (i0 := 0) rfl ⟨by rw [natL_length, List.length_range]; omega, by rw [List.append_nil]⟩ (Nat.zero_le _) ?_ ?_
  · rintro k ⟨left, out, ⟨⟩⟩ _ hk ⟨hlen, hP⟩
    have hpl := hP.length_eq
    rw [natL_length, List.length_range, List.length_append] at hpl
    dsimp only at hlen hpl
    simp (disch := omega) only [cond_dec, if_pos]
    refine Ok.bind_of (P := fun q => q.1.length + (k + 1) = n ∧ (q.1 ++ q.2.1).Perm (natL (List.range n))) ?_ ?_
    · refine Ok.bind_of (P := fun q => ∃ at' : Nat, q = ((at' : Int), left, out, ()) ∧ at' < left.length) ?_ ?_
      · refine Ok.ite (fun h => ?_) (fun h => Ok.some_iff.2 ⟨0, rfl, by omega⟩)
        have hkl : k < l.length := by omega
        rw [getN_some (List.getElem?_eq_getElem hkl)]
        simp only [Option.bind_some]
        rw [Place_eq _ _ (by omega) (by omega)]
        simp only [Option.bind_some]
        obtain ⟨m, hm, hm2⟩ := place_nat l[k] (left.length : Int) (by omega)
        exact Ok.some_iff.2 ⟨m, by rw [hm], by omega⟩
      · rintro _ ⟨m, rfl, hm⟩
        have hat : left[m]? = some left[m] := List.getElem?_eq_getElem hm
        have e1 : left = left.take m ++ left[m] :: left.drop (m + 1) := by rw [List.getElem_cons_drop, List.take_append_drop]
        have l1 : (left.take m).length = m := by rw [List.length_take]; omega
        have l2 : (left.drop (m + 1)).length = left.length - (m + 1) := List.length_drop ..
        simp (disch := omega) only [idxN_nat, Option.bind_some, atO_some hat, List.length_singleton, limO_ok, natO_ok, leO_ok, posO_ok, Option.map_some, wrap_inc, List.drop_zero, List.take_length, l1, l2]
        refine Ok.some_iff.2 ⟨?_, ?_⟩
        · simp only [List.length_append, l1, l2]; omega
        · refine List.Perm.trans ?_ hP
          conv => rhs; rw [e1]
          simp only [List.append_assoc, List.cons_append]
          refine List.Perm.append_left _ ?_
          rw [← List.append_assoc]
          exact List.perm_append_singleton _ _
    · rintro ⟨left2, out2, ⟨⟩⟩ hq
      simp (disch := omega) only [wrap_inc]
      exact Ok.some_iff.2 ⟨rfl, hq⟩
  · rintro ⟨left, out, ⟨⟩⟩ ⟨hlen, hP⟩
    dsimp only at hlen hP
    simp (disch := omega) only [cond_dec, if_neg]
    have : left = [] := List.eq_nil_of_length_eq_zero (by omega)
    subst this
    exact Ok.some_iff.2 (by simpa using hP)
end Go.Fw
end

section
namespace Go.Fw
set_option linter.unusedSimpArgs false
set_option linter.unusedVariables false
open Go
noncomputable def bT (adj : List (List Int)) (S : Nat → Prop) (a b : Nat) : Bool := open Classical in decide (a ≠ b ∧ ¬ S a ∧ ¬ S b ∧ WalkP (Nb adj) S a b)
theorem bT_iff {adj : List (List Int)} {S : Nat → Prop} {a b : Nat} : bT adj S a b = true ↔ a ≠ b ∧ ¬ S a ∧ ¬ S b ∧ WalkP (Nb adj) S a b := by classical unfold bT; exact decide_eq_true_iff
def ordN (o : List Int) (k : Nat) : Nat := (o.getD k 0).toNat
def ahead (o : List Int) (k : Nat) (x : Nat) : Prop := ∃ j, j < k ∧ x = ordN o j
noncomputable def dgN (adj : List (List Int)) (o : List Int) (k : Nat) : Nat := ((List.range adj.length).filter (bT adj (ahead o k) (ordN o k))).length
theorem IsPerm.get {o : List Int} {n : Nat} (h : IsPerm o n) {k : Nat} (hk : k < n) : getI o (k : Int) = some ((ordN o k : Nat) : Int) ∧ ordN o k < n := by
  have hl : k < o.length := by rw [h.1]; exact hk
  have h1 := h.2.1 _ (List.getElem_mem hl)
  have h2 : ordN o k = o[k].toNat := by unfold ordN; rw [getD_lt hl]
  exact ⟨by rw [getN_some (List.getElem?_eq_getElem hl), h2]; congr 1; omega, by omega⟩
theorem IsPerm.inj {o : List Int} {n : Nat} (h : IsPerm o n) {j k : Nat} (hj : j < n) (hk : k < n) (e : ordN o j = ordN o k) : j = k := by
  have hjl : j < o.length := by rw [h.1]; exact hj
  have hkl : k < o.length := by rw [h.1]; exact hk
  have h1 := h.2.1 _ (List.getElem_mem hjl)
  have h2 := h.2.1 _ (List.getElem_mem hkl)
  unfold ordN at e
  rw [getD_lt hjl, getD_lt hkl] at e
  exact (List.getElem_inj h.2.2).1 (by omega)
end Go.Fw
end

section
namespace Go.Fw
set_option linter.unusedSimpArgs false
set_option linter.unusedVariables false
open Go
def nB (n : Nat) (p : Nat → Bool) : Nat := ((List.range n).filter p).length
theorem nB_mono {n : Nat} {p q : Nat → Bool} (h : ∀ i, i < n → p i = true → q i = true) : nB n p ≤ nB n q := by
  unfold nB
  refine List.Sublist.length_le ?_
  have : (List.range n).filter p = ((List.range n).filter q).filter p := by
    rw [List.filter_filter]
    refine List.filter_congr fun i hi => ?_
    have := h i (List.mem_range.1 hi)
    cases hp : p i
    · simp
    · simp [this hp]
  rw [this]; exact List.filter_sublist
theorem sum_const (n c : Nat) : ((List.range n).map fun _ => c).sum = n * c := by
  induction n with
  | zero => simp
  | succ n ih => rw [List.range_succ, List.map_append, List.sum_append, ih, Nat.succ_mul]; simp
theorem sum_swap (R : Nat → Nat → Bool) (n m : Nat) : ((List.range m).map fun j => nB n (R j)).sum = ((List.range n).map fun i => nB m (fun j => R j i)).sum := by
  induction m with
  | zero =>
    show 0 = ((List.range n).map fun _ => 0).sum
    rw [sum_const]; rfl
  | succ m ih =>
    have : ∀ i, nB (m + 1) (fun j => R j i) = nB m (fun j => R j i) + (if R m i = true then 1 else 0) := fun i => by
      unfold nB
      rw [List.range_succ, List.filter_append, List.length_append]
      by_cases h : R m i = true <;> simp [h]
    rw [List.range_succ, List.map_append, List.sum_append, ih]
    simp only [this]
    rw [sum_addq, sum_ite]
    simp [nB]
theorem sum_le {l : List Nat} {f g : Nat → Nat} (h : ∀ x ∈ l, f x ≤ g x) : (l.map f).sum ≤ (l.map g).sum := by
  induction l with
  | nil => simp
  | cons a l ih => simp only [List.map_cons, List.sum_cons]; have := h a (by simp); have := ih (fun x hx => h x (by simp [hx])); omega
theorem IsPerm.map_perm {o : List Int} {n : Nat} (hp : o.Perm (natL (List.range n))) : ((List.range n).map (ordN o)).Perm (List.range n) := by
  have h1 := hp.map Int.toNat
  have e1 : (natL (List.range n)).map Int.toNat = List.range n := by
    unfold natL; rw [List.map_map]; exact List.map_id'' (fun x => by simp) _
  have hl : o.length = n := by rw [hp.length_eq, natL_length, List.length_range]
  have e2 : o.map Int.toNat = (List.range n).map (ordN o) := by
    apply List.ext_getElem
    · simp [hl]
    · intro i h1 h2
      have : i < o.length := by simpa using h1
      simp only [List.getElem_map, List.getElem_range, ordN]
      rw [getD_lt this]
  rw [e1, e2] at h1; exact h1
theorem nB_perm {o : List Int} {n : Nat} (hp : o.Perm (natL (List.range n))) (p : Nat → Bool) : nB n p = nB n (fun i => p (ordN o i)) := by
  unfold nB
  rw [← ((IsPerm.map_perm hp).filter p).length_eq, List.filter_map, List.length_map]
  rfl
section
variable {adj : List (List Int)} (hV : Valid adj) {o : List Int} (hp : IsPerm o adj.length)
include hV hp
end
end Go.Fw
end

section
namespace Go.Fw
set_option linter.unusedSimpArgs false
set_option linter.unusedVariables false
open Go
theorem nodup_le : ∀ {n : Nat} {l : List Nat}, l.Nodup → (∀ x ∈ l, x < n) → l.length ≤ n := by
  intro n
  induction n with
  | zero => intro l _ h; cases l with
    | nil => exact Nat.le_refl _
    | cons a l => exact absurd (h a (List.mem_cons_self ..)) (by omega)
  | succ n ih =>
    intro l hd h
    have h1 : (l.erase n).Nodup := hd.erase n
    have h2 : ∀ x ∈ l.erase n, x < n := fun x hx => by
      have h3 := h x (List.mem_of_mem_erase hx)
      have h4 : x ≠ n := fun e => by subst e; exact (hd.mem_erase_iff.1 hx).1 rfl
      omega
    have h3 := ih h1 h2
    by_cases hm : n ∈ l
    · rw [List.length_erase_of_mem hm] at h3; omega
    · rw [List.erase_of_not_mem hm] at h3; omega
theorem mem_natL {l : List Nat} {x : Nat} : (x : Int) ∈ natL l ↔ x ∈ l := by
  unfold natL
  rw [List.mem_map]
  constructor
  · rintro ⟨y, h1, h2⟩
    obtain rfl : y = x := by omega
    exact h1
  · exact fun h => ⟨x, h, rfl⟩
section
variable {adj : List (List Int)} (hV : Valid adj)
include hV
theorem nb_get {v j : Nat} (hv : v < adj.length) (hj : j < adj[v].length) : ∃ w : Nat, adj[v][j] = (w : Int) ∧ w < adj.length := by
  have hr := (hV.asc v hv).2 _ (List.getElem_mem hj)
  exact ⟨adj[v][j].toNat, by omega, by omega⟩
omit hV in
theorem take_mem_succ {l : List Int} {j w : Nat} (hj : j < l.length) (hw : l[j] = (w : Int)) (x : Nat) : (x : Int) ∈ l.take (j + 1) ↔ (x : Int) ∈ l.take j ∨ x = w := by
  rw [← take_snoc hj, List.mem_append, List.mem_singleton, hw]
  exact ⟨fun h => h.imp id (fun h => by omega), fun h => h.imp id (fun h => by omega)⟩
end
end Go.Fw
end

section
namespace Go.Fw
set_option linter.unusedSimpArgs false
set_option linter.unusedVariables false
open Go
theorem Ok.seq {σ ρ : Type} {f : σ → Option (σ ⊕ ρ)} {Q : ρ → Prop} {s0 : σ} (n : Nat) (I : Nat → σ → Prop) (i0 : Nat) (h0 : I i0 s0) (hi : i0 ≤ n)
    (hstep : ∀ i s, i0 ≤ i → i < n → I i s → Ok (f s) (fun | .inl s' => I (i + 1) s' | .inr r => Q r))
    (hend : ∀ s, I n s → Ok (f s) (fun | .inl _ => False | .inr r => Q r)) : Ok (Fw.loop f s0) Q := by
  obtain ⟨d, hd⟩ : ∃ d, n = i0 + d := ⟨n - i0, by omega⟩
  induction d generalizing i0 s0 with
  | zero =>
    obtain rfl : n = i0 := by omega
    rw [loop_unfold]
    obtain ⟨y, hy, hq⟩ := hend s0 h0
    rw [hy]
    cases y with
    | inl => exact hq.elim
    | inr r => exact Ok.some_iff.2 hq
  | succ d ih =>
    rw [loop_unfold]
    obtain ⟨y, hy, hq⟩ := hstep i0 s0 (Nat.le_refl _) (by omega) h0
    rw [hy]
    cases y with
    | inl s' => exact ih (i0 + 1) hq (by omega) (fun i s h => hstep i s (by omega)) (by omega)
    | inr r => exact Ok.some_iff.2 hq
theorem loop_seq {σ ρ : Type} {f : σ → Option (σ ⊕ ρ)} {r : ρ} {s0 : σ} (n : Nat) (I : Nat → σ) (i0 : Nat) (hs : s0 = I i0) (hi : i0 ≤ n)
    (hstep : ∀ i, i0 ≤ i → i < n → f (I i) = some (.inl (I (i + 1)))) (hend : f (I n) = some (.inr r)) : loop f s0 = some r := by
  rw [← Ok.eq_iff]
  refine Ok.seq n (fun i s => s = I i) i0 hs hi ?_ ?_
  · rintro i _ h1 h2 rfl
    rw [hstep i h1 h2]
    exact Ok.some_iff.2 rfl
  · rintro _ rfl
    rw [hend]
    exact Ok.some_iff.2 rfl
theorem bindR {α β : Type} {x : Option α} {g : α → Option β} {r : Option β} (y : α) (h2 : g y = r) (h : x = some y) : x.bind g = r := by rw [h]; exact h2
section
variable {adj : List (List Int)} (hV : Valid adj)
include hV
end
end Go.Fw
end

section
namespace Go.Fw
set_option linter.unusedSimpArgs false
set_option linter.unusedVariables false
open Go
def dgV (adj : List (List Int)) (x : Int) : Nat := (adj.getD x.toNat []).length
section
variable {adj : List (List Int)} (hV : Valid adj) (hn : adj.length ≤ 200)
include hV hn
end
end Go.Fw
end

section
namespace Go.Fw
set_option linter.unusedSimpArgs false
set_option linter.unusedVariables false
open Go
def lexI (adj : List (List Int)) (x y : Int) : Prop := dgV adj x < dgV adj y ∨ (dgV adj x = dgV adj y ∧ x < y)
instance (adj : List (List Int)) (x y : Int) : Decidable (lexI adj x y) := by unfold lexI; exact inferInstance
end Go.Fw
end

section
namespace Go.Fw
noncomputable def e_math_bits_Len64 (n_ : Nat) : (Int × Unit) → Option (Int × Unit) := fun (x_1, _) =>
  Option.bind (α := (Int × Int × Unit)) (
  (bif (decide (x_1 ≥ ((4294967296) : Int))) then (
  (shrO IntKind.u64 x_1 ((32) : Int)).bind fun y2 =>
  some (y2, ((32) : Int), ())) else (
  some (x_1, ((0) : Int), ())))) fun (x_3, n_4, _) =>
  Option.bind (α := (Int × Int × Unit)) (
  (bif (decide (x_3 ≥ ((65536) : Int))) then (
  (shrO IntKind.u64 x_3 ((16) : Int)).bind fun y5 =>
  some (y5, (IntKind.i64.wrap (n_4 + ((16) : Int))), ())) else (
  some (x_3, n_4, ())))) fun (x_6, n_7, _) =>
  Option.bind (α := (Int × Int × Unit)) (
  (bif (decide (x_6 ≥ ((256) : Int))) then (
  (shrO IntKind.u64 x_6 ((8) : Int)).bind fun y8 =>
  some (y8, (IntKind.i64.wrap (n_7 + ((8) : Int))), ())) else (
  some (x_6, n_7, ())))) fun (x_9, n_10, _) =>
  (strI lenTab (IntKind.u8.wrap x_9)).bind fun c11 =>
  some ((IntKind.i64.wrap (n_10 + (IntKind.i64.wrap c11))), ())
set_option maxHeartbeats 4000000 in
theorem le_math_bits_Len64 (n_ : Nat) (a : (Int × Unit)) : Le (e_math_bits_Len64 n_ a) (d_math_bits_Len64 a) := by
  unfold e_math_bits_Len64 d_math_bits_Len64
  repeat' (first | with_reducible exact Le.refl _  | (with_reducible refine Le.bind ?_ (fun y => ?_)) | (with_reducible refine Le.bif ?_ ?_) | (with_reducible refine Le.loop (fun s => ?_) _ _) | (with_reducible refine Le.atO (fun e => ?_)) | split)
noncomputable def e_math_bits_Len (n_ : Nat) : (Int × Unit) → Option (Int × Unit) := fun (x_1, _) =>
  (e_math_bits_Len64 n_ (x_1, ())).bind fun (r2, _) =>
  some (r2, ())
set_option maxHeartbeats 4000000 in
theorem le_math_bits_Len (n_ : Nat) (a : (Int × Unit)) : Le (e_math_bits_Len n_ a) (d_math_bits_Len a) := by
  unfold e_math_bits_Len d_math_bits_Len
  repeat' (first | with_reducible exact Le.refl _ | with_reducible exact le_math_bits_Len64 _ _ | (with_reducible refine Le.bind ?_ (fun y => ?_)) | (with_reducible refine Le.bif ?_ ?_) | (with_reducible refine Le.loop (fun s => ?_) _ _) | (with_reducible refine Le.atO (fun e => ?_)) | split)
noncomputable def e_slices_insertionSortOrdered_int (n_ : Nat) : ((List Int) × Int × Int × Unit) → Option ((List Int) × Unit) := fun (data_1, a_2, b_3, _) =>
  (loopN (σ := (Int × (List Int) × Unit)) (ρ := ((List Int) × Unit)) (fun (i_4, data_5, _) =>
  (bif (decide (i_4 < b_3)) then (
  (loopN (σ := (Int × (List Int) × Unit)) (ρ := ((List Int) × Unit)) (fun (j_6, data_7, _) =>
  Option.bind (α := ((List Int) × Unit) ⊕ ((Int × (List Int) × Unit) ⊕ ((List Int) × Unit))) (
  (bif ((decide (j_6 > a_2)) == true) then ((idxN (data_7).length j_6).bind fun k8 =>
  ((atO data_7 k8 fun e9 => some e9)).bind fun y10 =>
  (idxN (data_7).length (IntKind.i64.wrap (j_6 - ((1) : Int)))).bind fun k11 =>
  ((atO data_7 k11 fun e12 => some e12)).bind fun y13 =>
  (e_cmp_Less_int n_ (y10, y13, ())).bind fun (r14, _) =>
  (bif r14 then (
  some (.inl (data_7, ()))) else (
  some (.inr (.inr (data_7, ())))))) else (some (.inr (.inr (data_7, ())))))) fun q => match q with
  | .inl (data_15, _) => (
  (idxN (data_15).length (IntKind.i64.wrap (j_6 - ((1) : Int)))).bind fun k16 =>
  ((atO data_15 k16 fun e17 => some e17)).bind fun y18 =>
  (idxN (data_15).length j_6).bind fun k19 =>
  ((atO data_15 k19 fun e20 => some e20)).bind fun y21 =>
  (idxN (data_15).length j_6).bind fun k22 =>
  ((atO data_15 k22 fun _ => some ((data_15).set k22 y18))).bind fun z24 =>
  (idxN (z24).length (IntKind.i64.wrap (j_6 - ((1) : Int)))).bind fun k25 =>
  ((atO z24 k25 fun _ => some ((z24).set k25 y21))).bind fun z27 =>
  some (.inl ((IntKind.i64.wrap (j_6 - ((1) : Int))), z27, ())))
  | .inr r => some r) n_ (i_4, data_5, ())).bind fun (data_28, _) =>
  some (.inl ((IntKind.i64.wrap (i_4 + ((1) : Int))), data_28, ()))) else (
  some (.inr (data_5, ()))))) n_ ((IntKind.i64.wrap (a_2 + ((1) : Int))), data_1, ())).bind fun (data_29, _) =>
  some (data_29, ())
set_option maxHeartbeats 4000000 in
theorem le_slices_insertionSortOrdered_int (n_ : Nat) (a : ((List Int) × Int × Int × Unit)) : Le (e_slices_insertionSortOrdered_int n_ a) (d_slices_insertionSortOrdered_int a) := by
  unfold e_slices_insertionSortOrdered_int d_slices_insertionSortOrdered_int
  repeat' (first | with_reducible exact Le.refl _ | with_reducible exact le_cmp_Less_int _ _ | (with_reducible refine Le.bind ?_ (fun y => ?_)) | (with_reducible refine Le.bif ?_ ?_) | (with_reducible refine Le.loop (fun s => ?_) _ _) | (with_reducible refine Le.atO (fun e => ?_)) | split)
noncomputable def e_slices_siftDownOrdered_int (n_ : Nat) : ((List Int) × Int × Int × Int × Unit) → Option ((List Int) × Unit) := fun (data_1, lo_2, hi_3, first_4, _) =>
  (loopN (σ := (Int × (List Int) × Unit)) (ρ := (((List Int) × Unit) ⊕ ((List Int) × Unit))) (fun (root_5, data_6, _) =>
  (bif (decide ((IntKind.i64.wrap ((IntKind.i64.wrap (((2) : Int) * root_5)) + ((1) : Int))) ≥ hi_3)) then (
  some (.inr (.inl (data_6, ())))) else (
  Option.bind (α := (Int × (List Int) × Unit)) (
  Option.bind (α := (Bool × (List Int) × Unit)) (
  (bif ((decide ((IntKind.i64.wrap ((IntKind.i64.wrap ((IntKind.i64.wrap (((2) : Int) * root_5)) + ((1) : Int))) + ((1) : Int))) < hi_3)) == true) then ((idxN (data_6).length (IntKind.i64.wrap (first_4 + (IntKind.i64.wrap ((IntKind.i64.wrap (((2) : Int) * root_5)) + ((1) : Int)))))).bind fun k7 =>
  ((atO data_6 k7 fun e8 => some e8)).bind fun y9 =>
  (idxN (data_6).length (IntKind.i64.wrap ((IntKind.i64.wrap (first_4 + (IntKind.i64.wrap ((IntKind.i64.wrap (((2) : Int) * root_5)) + ((1) : Int))))) + ((1) : Int)))).bind fun k10 =>
  ((atO data_6 k10 fun e11 => some e11)).bind fun y12 =>
  (e_cmp_Less_int n_ (y9, y12, ())).bind fun (r13, _) =>
  some (r13, data_6, ())) else (some (false, data_6, ())))) fun (s_14, data_15, _) =>
  (bif s_14 then (
  some ((IntKind.i64.wrap ((IntKind.i64.wrap ((IntKind.i64.wrap (((2) : Int) * root_5)) + ((1) : Int))) + ((1) : Int))), data_15, ())) else (
  some ((IntKind.i64.wrap ((IntKind.i64.wrap (((2) : Int) * root_5)) + ((1) : Int))), data_15, ())))) fun (child_16, data_17, _) =>
  (idxN (data_17).length (IntKind.i64.wrap (first_4 + root_5))).bind fun k18 =>
  ((atO data_17 k18 fun e19 => some e19)).bind fun y20 =>
  (idxN (data_17).length (IntKind.i64.wrap (first_4 + child_16))).bind fun k21 =>
  ((atO data_17 k21 fun e22 => some e22)).bind fun y23 =>
  (e_cmp_Less_int n_ (y20, y23, ())).bind fun (r24, _) =>
  (bif (!r24) then (
  some (.inr (.inr (data_17, ())))) else (
  (idxN (data_17).length (IntKind.i64.wrap (first_4 + child_16))).bind fun k25 =>
  ((atO data_17 k25 fun e26 => some e26)).bind fun y27 =>
  (idxN (data_17).length (IntKind.i64.wrap (first_4 + root_5))).bind fun k28 =>
  ((atO data_17 k28 fun e29 => some e29)).bind fun y30 =>
  (idxN (data_17).length (IntKind.i64.wrap (first_4 + root_5))).bind fun k31 =>
  ((atO data_17 k31 fun _ => some ((data_17).set k31 y27))).bind fun z33 =>
  (idxN (z33).length (IntKind.i64.wrap (first_4 + child_16))).bind fun k34 =>
  ((atO z33 k34 fun _ => some ((z33).set k34 y30))).bind fun z36 =>
  some (.inl (child_16, z36, ()))))))) n_ (lo_2, data_1, ())).bind fun q => match q with
  | .inl (data_37, _) => (
  some (data_37, ()))
  | .inr r => some r
set_option maxHeartbeats 4000000 in
theorem le_slices_siftDownOrdered_int (n_ : Nat) (a : ((List Int) × Int × Int × Int × Unit)) : Le (e_slices_siftDownOrdered_int n_ a) (d_slices_siftDownOrdered_int a) := by
  unfold e_slices_siftDownOrdered_int d_slices_siftDownOrdered_int
  repeat' (first | with_reducible exact Le.refl _ | with_reducible exact le_cmp_Less_int _ _ | (with_reducible refine Le.bind ?_ (fun y => ?_)) | (with_reducible refine Le.bif ?_ ?_) | (with_reducible refine Le.loop (fun s => ?_) _ _) | (with_reducible refine Le.atO (fun e => ?_)) | split)
noncomputable def e_slices_heapSortOrdered_int (n_ : Nat) : ((List Int) × Int × Int × Unit) → Option ((List Int) × Unit) := fun (data_1, a_2, b_3, _) =>
  (quoO IntKind.i64 (IntKind.i64.wrap ((IntKind.i64.wrap (b_3 - a_2)) - ((1) : Int))) ((2) : Int)).bind fun y4 =>
  (loopN (σ := (Int × (List Int) × Unit)) (ρ := ((List Int) × Unit)) (fun (i_5, data_6, _) =>
  (bif (decide (i_5 ≥ ((0) : Int))) then (
  (e_slices_siftDownOrdered_int n_ (data_6, i_5, (IntKind.i64.wrap (b_3 - a_2)), a_2, ())).bind fun (m7, _) =>
  some (.inl ((IntKind.i64.wrap (i_5 - ((1) : Int))), m7, ()))) else (
  some (.inr (data_6, ()))))) n_ (y4, data_1, ())).bind fun (data_8, _) =>
  (loopN (σ := (Int × (List Int) × Unit)) (ρ := ((List Int) × Unit)) (fun (i_9, data_10, _) =>
  (bif (decide (i_9 ≥ ((0) : Int))) then (
  (idxN (data_10).length (IntKind.i64.wrap (a_2 + i_9))).bind fun k11 =>
  ((atO data_10 k11 fun e12 => some e12)).bind fun y13 =>
  (idxN (data_10).length a_2).bind fun k14 =>
  ((atO data_10 k14 fun e15 => some e15)).bind fun y16 =>
  (idxN (data_10).length a_2).bind fun k17 =>
  ((atO data_10 k17 fun _ => some ((data_10).set k17 y13))).bind fun z19 =>
  (idxN (z19).length (IntKind.i64.wrap (a_2 + i_9))).bind fun k20 =>
  ((atO z19 k20 fun _ => some ((z19).set k20 y16))).bind fun z22 =>
  (e_slices_siftDownOrdered_int n_ (z22, ((0) : Int), i_9, a_2, ())).bind fun (m23, _) =>
  some (.inl ((IntKind.i64.wrap (i_9 - ((1) : Int))), m23, ()))) else (
  some (.inr (data_10, ()))))) n_ ((IntKind.i64.wrap ((IntKind.i64.wrap (b_3 - a_2)) - ((1) : Int))), data_8, ())).bind fun (data_24, _) =>
  some (data_24, ())
set_option maxHeartbeats 4000000 in
theorem le_slices_heapSortOrdered_int (n_ : Nat) (a : ((List Int) × Int × Int × Unit)) : Le (e_slices_heapSortOrdered_int n_ a) (d_slices_heapSortOrdered_int a) := by
  unfold e_slices_heapSortOrdered_int d_slices_heapSortOrdered_int
  repeat' (first | with_reducible exact Le.refl _ | with_reducible exact le_slices_siftDownOrdered_int _ _ | (with_reducible refine Le.bind ?_ (fun y => ?_)) | (with_reducible refine Le.bif ?_ ?_) | (with_reducible refine Le.loop (fun s => ?_) _ _) | (with_reducible refine Le.atO (fun e => ?_)) | split)
noncomputable def e_slices_nextPowerOfTwo (n_ : Nat) : (Int × Unit) → Option (Int × Unit) := fun (length_1, _) =>
  (e_math_bits_Len n_ ((IntKind.u64.wrap length_1), ())).bind fun (r2, _) =>
  (shlO IntKind.u64 ((1) : Int) r2).bind fun y3 =>
  some (y3, ())
set_option maxHeartbeats 4000000 in
theorem le_slices_nextPowerOfTwo (n_ : Nat) (a : (Int × Unit)) : Le (e_slices_nextPowerOfTwo n_ a) (d_slices_nextPowerOfTwo a) := by
  unfold e_slices_nextPowerOfTwo d_slices_nextPowerOfTwo
  repeat' (first | with_reducible exact Le.refl _ | with_reducible exact le_math_bits_Len _ _ | (with_reducible refine Le.bind ?_ (fun y => ?_)) | (with_reducible refine Le.bif ?_ ?_) | (with_reducible refine Le.loop (fun s => ?_) _ _) | (with_reducible refine Le.atO (fun e => ?_)) | split)
noncomputable def e_slices_xorshift_Next (n_ : Nat) : (Int × Unit) → Option (Int × Int × Unit) := fun (r_1, _) =>
  (shlO IntKind.u64 r_1 ((13) : Int)).bind fun y2 =>
  (shrO IntKind.u64 (xorI IntKind.u64 r_1 y2) ((7) : Int)).bind fun y3 =>
  (shlO IntKind.u64 (xorI IntKind.u64 (xorI IntKind.u64 r_1 y2) y3) ((17) : Int)).bind fun y4 =>
  some ((xorI IntKind.u64 (xorI IntKind.u64 (xorI IntKind.u64 r_1 y2) y3) y4), (xorI IntKind.u64 (xorI IntKind.u64 (xorI IntKind.u64 r_1 y2) y3) y4), ())
set_option maxHeartbeats 4000000 in
theorem le_slices_xorshift_Next (n_ : Nat) (a : (Int × Unit)) : Le (e_slices_xorshift_Next n_ a) (d_slices_xorshift_Next a) := by
  unfold e_slices_xorshift_Next d_slices_xorshift_Next
  repeat' (first | with_reducible exact Le.refl _  | (with_reducible refine Le.bind ?_ (fun y => ?_)) | (with_reducible refine Le.bif ?_ ?_) | (with_reducible refine Le.loop (fun s => ?_) _ _) | (with_reducible refine Le.atO (fun e => ?_)) | split)
noncomputable def e_slices_breakPatternsOrdered_int (n_ : Nat) : ((List Int) × Int × Int × Unit) → Option ((List Int) × Unit) := fun (data_1, a_2, b_3, _) =>
  (bif (decide ((IntKind.i64.wrap (b_3 - a_2)) ≥ ((8) : Int))) then (
  (e_slices_nextPowerOfTwo n_ ((IntKind.i64.wrap (b_3 - a_2)), ())).bind fun (r4, _) =>
  (quoO IntKind.i64 (IntKind.i64.wrap (b_3 - a_2)) ((4) : Int)).bind fun y5 =>
  (loopN (σ := (Int × (List Int) × Int × Unit)) (ρ := ((List Int) × Unit)) (fun (idx_6, data_7, random_8, _) =>
  (quoO IntKind.i64 (IntKind.i64.wrap (b_3 - a_2)) ((4) : Int)).bind fun y9 =>
  (bif (decide (idx_6 ≤ (IntKind.i64.wrap ((IntKind.i64.wrap (a_2 + (IntKind.i64.wrap (y9 * ((2) : Int))))) + ((1) : Int))))) then (
  Option.bind (α := ((List Int) × Int × Unit)) (
  (e_slices_xorshift_Next n_ (random_8, ())).bind fun (m10, r11, _) =>
  Option.bind (α := (Int × (List Int) × Int × Unit)) (
  (bif (decide ((IntKind.i64.wrap (andI IntKind.u64 r11 (IntKind.u64.wrap (r4 - ((1) : Int))))) ≥ (IntKind.i64.wrap (b_3 - a_2)))) then (
  some ((IntKind.i64.wrap ((IntKind.i64.wrap (andI IntKind.u64 r11 (IntKind.u64.wrap (r4 - ((1) : Int))))) - (IntKind.i64.wrap (b_3 - a_2)))), data_7, m10, ())) else (
  some ((IntKind.i64.wrap (andI IntKind.u64 r11 (IntKind.u64.wrap (r4 - ((1) : Int))))), data_7, m10, ())))) fun (other_12, data_13, random_14, _) =>
  (idxN (data_13).length (IntKind.i64.wrap (a_2 + other_12))).bind fun k15 =>
  ((atO data_13 k15 fun e16 => some e16)).bind fun y17 =>
  (idxN (data_13).length idx_6).bind fun k18 =>
  ((atO data_13 k18 fun e19 => some e19)).bind fun y20 =>
  (idxN (data_13).length idx_6).bind fun k21 =>
  ((atO data_13 k21 fun _ => some ((data_13).set k21 y17))).bind fun z23 =>
  (idxN (z23).length (IntKind.i64.wrap (a_2 + other_12))).bind fun k24 =>
  ((atO z23 k24 fun _ => some ((z23).set k24 y20))).bind fun z26 =>
  some (z26, random_14, ())) fun (data_27, random_28, _) =>
  some (.inl ((IntKind.i64.wrap (idx_6 + ((1) : Int))), data_27, random_28, ()))) else (
  some (.inr (data_7, ()))))) n_ ((IntKind.i64.wrap ((IntKind.i64.wrap (a_2 + (IntKind.i64.wrap (y5 * ((2) : Int))))) - ((1) : Int))), data_1, (IntKind.u64.wrap (IntKind.i64.wrap (b_3 - a_2))), ())).bind fun (data_29, _) =>
  some (data_29, ())) else (
  some (data_1, ())))
set_option maxHeartbeats 4000000 in
theorem le_slices_breakPatternsOrdered_int (n_ : Nat) (a : ((List Int) × Int × Int × Unit)) : Le (e_slices_breakPatternsOrdered_int n_ a) (d_slices_breakPatternsOrdered_int a) := by
  unfold e_slices_breakPatternsOrdered_int d_slices_breakPatternsOrdered_int
  repeat' (first | with_reducible exact Le.refl _ | with_reducible exact le_slices_nextPowerOfTwo _ _ | with_reducible exact le_slices_xorshift_Next _ _ | (with_reducible refine Le.bind ?_ (fun y => ?_)) | (with_reducible refine Le.bif ?_ ?_) | (with_reducible refine Le.loop (fun s => ?_) _ _) | (with_reducible refine Le.atO (fun e => ?_)) | split)
noncomputable def e_slices_order2Ordered_int (n_ : Nat) : ((List Int) × Int × Int × Int × Unit) → Option (Int × Int × Int × Unit) := fun (data_1, a_2, b_3, swaps_4, _) =>
  (getI data_1 b_3).bind fun y5 =>
  (getI data_1 a_2).bind fun y6 =>
  (e_cmp_Less_int n_ (y5, y6, ())).bind fun (r7, _) =>
  (bif r7 then (
  some ((IntKind.i64.wrap (swaps_4 + ((1) : Int))), b_3, a_2, ())) else (
  some (swaps_4, a_2, b_3, ())))
set_option maxHeartbeats 4000000 in
theorem le_slices_order2Ordered_int (n_ : Nat) (a : ((List Int) × Int × Int × Int × Unit)) : Le (e_slices_order2Ordered_int n_ a) (d_slices_order2Ordered_int a) := by
  unfold e_slices_order2Ordered_int d_slices_order2Ordered_int
  repeat' (first | with_reducible exact Le.refl _ | with_reducible exact le_cmp_Less_int _ _ | (with_reducible refine Le.bind ?_ (fun y => ?_)) | (with_reducible refine Le.bif ?_ ?_) | (with_reducible refine Le.loop (fun s => ?_) _ _) | (with_reducible refine Le.atO (fun e => ?_)) | split)
noncomputable def e_slices_medianOrdered_int (n_ : Nat) : ((List Int) × Int × Int × Int × Int × Unit) → Option (Int × Int × Unit) := fun (data_1, a_2, b_3, c_4, swaps_5, _) =>
  (e_slices_order2Ordered_int n_ (data_1, a_2, b_3, swaps_5, ())).bind fun (m6, r7, r8, _) =>
  (e_slices_order2Ordered_int n_ (data_1, r8, c_4, m6, ())).bind fun (m9, r10, _, _) =>
  (e_slices_order2Ordered_int n_ (data_1, r7, r10, m9, ())).bind fun (m12, _, r14, _) =>
  some (m12, r14, ())
set_option maxHeartbeats 4000000 in
theorem le_slices_medianOrdered_int (n_ : Nat) (a : ((List Int) × Int × Int × Int × Int × Unit)) : Le (e_slices_medianOrdered_int n_ a) (d_slices_medianOrdered_int a) := by
  unfold e_slices_medianOrdered_int d_slices_medianOrdered_int
  repeat' (first | with_reducible exact Le.refl _ | with_reducible exact le_slices_order2Ordered_int _ _ | (with_reducible refine Le.bind ?_ (fun y => ?_)) | (with_reducible refine Le.bif ?_ ?_) | (with_reducible refine Le.loop (fun s => ?_) _ _) | (with_reducible refine Le.atO (fun e => ?_)) | split)
noncomputable def e_slices_medianAdjacentOrdered_int (n_ : Nat) : ((List Int) × Int × Int × Unit) → Option (Int × Int × Unit) := fun (data_1, a_2, swaps_3, _) =>
  (e_slices_medianOrdered_int n_ (data_1, (IntKind.i64.wrap (a_2 - ((1) : Int))), a_2, (IntKind.i64.wrap (a_2 + ((1) : Int))), swaps_3, ())).bind fun (m4, r5, _) =>
  some (m4, r5, ())
set_option maxHeartbeats 4000000 in
theorem le_slices_medianAdjacentOrdered_int (n_ : Nat) (a : ((List Int) × Int × Int × Unit)) : Le (e_slices_medianAdjacentOrdered_int n_ a) (d_slices_medianAdjacentOrdered_int a) := by
  unfold e_slices_medianAdjacentOrdered_int d_slices_medianAdjacentOrdered_int
  repeat' (first | with_reducible exact Le.refl _ | with_reducible exact le_slices_medianOrdered_int _ _ | (with_reducible refine Le.bind ?_ (fun y => ?_)) | (with_reducible refine Le.bif ?_ ?_) | (with_reducible refine Le.loop (fun s => ?_) _ _) | (with_reducible refine Le.atO (fun e => ?_)) | split)
noncomputable def e_slices_choosePivotOrdered_int (n_ : Nat) : ((List Int) × Int × Int × Unit) → Option (Int × Int × Unit) := fun (data_1, a_2, b_3, _) =>
  (quoO IntKind.i64 (IntKind.i64.wrap (b_3 - a_2)) ((4) : Int)).bind fun y4 =>
  (quoO IntKind.i64 (IntKind.i64.wrap (b_3 - a_2)) ((4) : Int)).bind fun y5 =>
  (quoO IntKind.i64 (IntKind.i64.wrap (b_3 - a_2)) ((4) : Int)).bind fun y6 =>
  Option.bind (α := (Int × Int × Unit)) (
  (bif (decide ((IntKind.i64.wrap (b_3 - a_2)) ≥ ((8) : Int))) then (
  Option.bind (α := (Int × Int × Int × Int × Unit)) (
  (bif (decide ((IntKind.i64.wrap (b_3 - a_2)) ≥ ((50) : Int))) then (
  (e_slices_medianAdjacentOrdered_int n_ (data_1, (IntKind.i64.wrap (a_2 + (IntKind.i64.wrap (y4 * ((1) : Int))))), (0 : Int), ())).bind fun (m7, r8, _) =>
  (e_slices_medianAdjacentOrdered_int n_ (data_1, (IntKind.i64.wrap (a_2 + (IntKind.i64.wrap (y5 * ((2) : Int))))), m7, ())).bind fun (m9, r10, _) =>
  (e_slices_medianAdjacentOrdered_int n_ (data_1, (IntKind.i64.wrap (a_2 + (IntKind.i64.wrap (y6 * ((3) : Int))))), m9, ())).bind fun (m11, r12, _) =>
  some (r8, r10, r12, m11, ())) else (
  some ((IntKind.i64.wrap (a_2 + (IntKind.i64.wrap (y4 * ((1) : Int))))), (IntKind.i64.wrap (a_2 + (IntKind.i64.wrap (y5 * ((2) : Int))))), (IntKind.i64.wrap (a_2 + (IntKind.i64.wrap (y6 * ((3) : Int))))), (0 : Int), ())))) fun (i_13, j_14, k_15, swaps_16, _) =>
  (e_slices_medianOrdered_int n_ (data_1, i_13, j_14, k_15, swaps_16, ())).bind fun (m17, r18, _) =>
  some (r18, m17, ())) else (
  some ((IntKind.i64.wrap (a_2 + (IntKind.i64.wrap (y5 * ((2) : Int))))), (0 : Int), ())))) fun (j_19, swaps_20, _) =>
  (bif (swaps_20 == ((0) : Int)) then (
  some (j_19, ((1) : Int), ())) else (
  (bif (swaps_20 == ((12) : Int)) then (
  some (j_19, ((2) : Int), ())) else (
  some (j_19, ((0) : Int), ())))))
set_option maxHeartbeats 4000000 in
theorem le_slices_choosePivotOrdered_int (n_ : Nat) (a : ((List Int) × Int × Int × Unit)) : Le (e_slices_choosePivotOrdered_int n_ a) (d_slices_choosePivotOrdered_int a) := by
  unfold e_slices_choosePivotOrdered_int d_slices_choosePivotOrdered_int
  repeat' (first | with_reducible exact Le.refl _ | with_reducible exact le_slices_medianAdjacentOrdered_int _ _ | with_reducible exact le_slices_medianOrdered_int _ _ | (with_reducible refine Le.bind ?_ (fun y => ?_)) | (with_reducible refine Le.bif ?_ ?_) | (with_reducible refine Le.loop (fun s => ?_) _ _) | (with_reducible refine Le.atO (fun e => ?_)) | split)
noncomputable def e_slices_reverseRangeOrdered_int (n_ : Nat) : ((List Int) × Int × Int × Unit) → Option ((List Int) × Unit) := fun (data_1, a_2, b_3, _) =>
  (loopN (σ := (Int × Int × (List Int) × Unit)) (ρ := ((List Int) × Unit)) (fun (i_4, j_5, data_6, _) =>
  (bif (decide (i_4 < j_5)) then (
  (idxN (data_6).length j_5).bind fun k7 =>
  ((atO data_6 k7 fun e8 => some e8)).bind fun y9 =>
  (idxN (data_6).length i_4).bind fun k10 =>
  ((atO data_6 k10 fun e11 => some e11)).bind fun y12 =>
  (idxN (data_6).length i_4).bind fun k13 =>
  ((atO data_6 k13 fun _ => some ((data_6).set k13 y9))).bind fun z15 =>
  (idxN (z15).length j_5).bind fun k16 =>
  ((atO z15 k16 fun _ => some ((z15).set k16 y12))).bind fun z18 =>
  some (.inl ((IntKind.i64.wrap (i_4 + ((1) : Int))), (IntKind.i64.wrap (j_5 - ((1) : Int))), z18, ()))) else (
  some (.inr (data_6, ()))))) n_ (a_2, (IntKind.i64.wrap (b_3 - ((1) : Int))), data_1, ())).bind fun (data_19, _) =>
  some (data_19, ())
set_option maxHeartbeats 4000000 in
theorem le_slices_reverseRangeOrdered_int (n_ : Nat) (a : ((List Int) × Int × Int × Unit)) : Le (e_slices_reverseRangeOrdered_int n_ a) (d_slices_reverseRangeOrdered_int a) := by
  unfold e_slices_reverseRangeOrdered_int d_slices_reverseRangeOrdered_int
  repeat' (first | with_reducible exact Le.refl _  | (with_reducible refine Le.bind ?_ (fun y => ?_)) | (with_reducible refine Le.bif ?_ ?_) | (with_reducible refine Le.loop (fun s => ?_) _ _) | (with_reducible refine Le.atO (fun e => ?_)) | split)
noncomputable def e_slices_partialInsertionSortOrdered_int (n_ : Nat) : ((List Int) × Int × Int × Unit) → Option ((List Int) × Bool × Unit) := fun (data_1, a_2, b_3, _) =>
  (loopN (σ := (Int × Int × (List Int) × Unit)) (ρ := (((List Int) × Unit) ⊕ ((List Int) × Bool × Unit))) (fun (i_4, j_5, data_6, _) =>
  (bif (decide (j_5 < ((5) : Int))) then (
  Option.bind (α := (Int × (List Int) × Unit) ⊕ ((Int × Int × (List Int) × Unit) ⊕ (((List Int) × Unit) ⊕ ((List Int) × Bool × Unit)))) (
  (loopN (σ := (Int × (List Int) × Unit)) (ρ := (Int × (List Int) × Unit)) (fun (i_7, data_8, _) =>
  Option.bind (α := ((List Int) × Unit) ⊕ ((Int × (List Int) × Unit) ⊕ (Int × (List Int) × Unit))) (
  (bif ((decide (i_7 < b_3)) == true) then ((idxN (data_8).length i_7).bind fun k9 =>
  ((atO data_8 k9 fun e10 => some e10)).bind fun y11 =>
  (idxN (data_8).length (IntKind.i64.wrap (i_7 - ((1) : Int)))).bind fun k12 =>
  ((atO data_8 k12 fun e13 => some e13)).bind fun y14 =>
  (e_cmp_Less_int n_ (y11, y14, ())).bind fun (r15, _) =>
  (bif (!r15) then (
  some (.inl (data_8, ()))) else (
  some (.inr (.inr (i_7, data_8, ())))))) else (some (.inr (.inr (i_7, data_8, ())))))) fun q => match q with
  | .inl (data_16, _) => (
  some (.inl ((IntKind.i64.wrap (i_7 + ((1) : Int))), data_16, ())))
  | .inr r => some r) n_ (i_4, data_6, ())).bind fun (i_17, data_18, _) =>
  (bif (i_17 == b_3) then (
  some (.inr (.inr (.inr (data_18, true, ()))))) else (
  (bif (decide ((IntKind.i64.wrap (b_3 - a_2)) < ((50) : Int))) then (
  some (.inr (.inr (.inr (data_18, false, ()))))) else (
  (idxN (data_18).length (IntKind.i64.wrap (i_17 - ((1) : Int)))).bind fun k19 =>
  ((atO data_18 k19 fun e20 => some e20)).bind fun y21 =>
  (idxN (data_18).length i_17).bind fun k22 =>
  ((atO data_18 k22 fun e23 => some e23)).bind fun y24 =>
  (idxN (data_18).length i_17).bind fun k25 =>
  ((atO data_18 k25 fun _ => some ((data_18).set k25 y21))).bind fun z27 =>
  (idxN (z27).length (IntKind.i64.wrap (i_17 - ((1) : Int)))).bind fun k28 =>
  ((atO z27 k28 fun _ => some ((z27).set k28 y24))).bind fun z30 =>
  Option.bind (α := ((List Int) × Unit)) (
  (bif (decide ((IntKind.i64.wrap (i_17 - a_2)) ≥ ((2) : Int))) then (
  (loopN (σ := (Int × (List Int) × Unit)) (ρ := ((List Int) × Unit)) (fun (j_31, data_32, _) =>
  (bif (decide (j_31 ≥ ((1) : Int))) then (
  (idxN (data_32).length j_31).bind fun k33 =>
  ((atO data_32 k33 fun e34 => some e34)).bind fun y35 =>
  (idxN (data_32).length (IntKind.i64.wrap (j_31 - ((1) : Int)))).bind fun k36 =>
  ((atO data_32 k36 fun e37 => some e37)).bind fun y38 =>
  (e_cmp_Less_int n_ (y35, y38, ())).bind fun (r39, _) =>
  (bif (!r39) then (
  some (.inr (data_32, ()))) else (
  (idxN (data_32).length (IntKind.i64.wrap (j_31 - ((1) : Int)))).bind fun k40 =>
  ((atO data_32 k40 fun e41 => some e41)).bind fun y42 =>
  (idxN (data_32).length j_31).bind fun k43 =>
  ((atO data_32 k43 fun e44 => some e44)).bind fun y45 =>
  (idxN (data_32).length j_31).bind fun k46 =>
  ((atO data_32 k46 fun _ => some ((data_32).set k46 y42))).bind fun z48 =>
  (idxN (z48).length (IntKind.i64.wrap (j_31 - ((1) : Int)))).bind fun k49 =>
  ((atO z48 k49 fun _ => some ((z48).set k49 y45))).bind fun z51 =>
  some (.inl ((IntKind.i64.wrap (j_31 - ((1) : Int))), z51, ()))))) else (
  some (.inr (data_32, ()))))) n_ ((IntKind.i64.wrap (i_17 - ((1) : Int))), z30, ())).bind fun (data_52, _) =>
  some (data_52, ())) else (
  some (z30, ())))) fun (data_53, _) =>
  (bif (decide ((IntKind.i64.wrap (b_3 - i_17)) ≥ ((2) : Int))) then (
  (loopN (σ := (Int × (List Int) × Unit)) (ρ := ((List Int) × Unit)) (fun (j_54, data_55, _) =>
  (bif (decide (j_54 < b_3)) then (
  (idxN (data_55).length j_54).bind fun k56 =>
  ((atO data_55 k56 fun e57 => some e57)).bind fun y58 =>
  (idxN (data_55).length (IntKind.i64.wrap (j_54 - ((1) : Int)))).bind fun k59 =>
  ((atO data_55 k59 fun e60 => some e60)).bind fun y61 =>
  (e_cmp_Less_int n_ (y58, y61, ())).bind fun (r62, _) =>
  (bif (!r62) then (
  some (.inr (data_55, ()))) else (
  (idxN (data_55).length (IntKind.i64.wrap (j_54 - ((1) : Int)))).bind fun k63 =>
  ((atO data_55 k63 fun e64 => some e64)).bind fun y65 =>
  (idxN (data_55).length j_54).bind fun k66 =>
  ((atO data_55 k66 fun e67 => some e67)).bind fun y68 =>
  (idxN (data_55).length j_54).bind fun k69 =>
  ((atO data_55 k69 fun _ => some ((data_55).set k69 y65))).bind fun z71 =>
  (idxN (z71).length (IntKind.i64.wrap (j_54 - ((1) : Int)))).bind fun k72 =>
  ((atO z71 k72 fun _ => some ((z71).set k72 y68))).bind fun z74 =>
  some (.inl ((IntKind.i64.wrap (j_54 + ((1) : Int))), z74, ()))))) else (
  some (.inr (data_55, ()))))) n_ ((IntKind.i64.wrap (i_17 + ((1) : Int))), data_53, ())).bind fun (data_75, _) =>
  some (.inl (i_17, data_75, ()))) else (
  some (.inl (i_17, data_53, ()))))))))) fun q => match q with
  | .inl (i_76, data_77, _) => (
  some (.inl (i_76, (IntKind.i64.wrap (j_5 + ((1) : Int))), data_77, ())))
  | .inr r => some r) else (
  some (.inr (.inl (data_6, ())))))) n_ ((IntKind.i64.wrap (a_2 + ((1) : Int))), ((0) : Int), data_1, ())).bind fun q => match q with
  | .inl (data_78, _) => (
  some (data_78, false, ()))
  | .inr r => some r
set_option maxHeartbeats 4000000 in
theorem le_slices_partialInsertionSortOrdered_int (n_ : Nat) (a : ((List Int) × Int × Int × Unit)) : Le (e_slices_partialInsertionSortOrdered_int n_ a) (d_slices_partialInsertionSortOrdered_int a) := by
  unfold e_slices_partialInsertionSortOrdered_int d_slices_partialInsertionSortOrdered_int
  repeat' (first | with_reducible exact Le.refl _ | with_reducible exact le_cmp_Less_int _ _ | (with_reducible refine Le.bind ?_ (fun y => ?_)) | (with_reducible refine Le.bif ?_ ?_) | (with_reducible refine Le.loop (fun s => ?_) _ _) | (with_reducible refine Le.atO (fun e => ?_)) | split)
noncomputable def e_slices_partitionEqualOrdered_int (n_ : Nat) : ((List Int) × Int × Int × Int × Unit) → Option ((List Int) × Int × Unit) := fun (data_1, a_2, b_3, pivot_4, _) =>
  (idxN (data_1).length pivot_4).bind fun k5 =>
  ((atO data_1 k5 fun e6 => some e6)).bind fun y7 =>
  (idxN (data_1).length a_2).bind fun k8 =>
  ((atO data_1 k8 fun e9 => some e9)).bind fun y10 =>
  (idxN (data_1).length a_2).bind fun k11 =>
  ((atO data_1 k11 fun _ => some ((data_1).set k11 y7))).bind fun z13 =>
  (idxN (z13).length pivot_4).bind fun k14 =>
  ((atO z13 k14 fun _ => some ((z13).set k14 y10))).bind fun z16 =>
  (loopN (σ := (Int × Int × (List Int) × Unit)) (ρ := (Int × (List Int) × Unit)) (fun (i_17, j_18, data_19, _) =>
  (loopN (σ := (Int × (List Int) × Unit)) (ρ := (Int × (List Int) × Unit)) (fun (i_20, data_21, _) =>
  Option.bind (α := ((List Int) × Unit) ⊕ ((Int × (List Int) × Unit) ⊕ (Int × (List Int) × Unit))) (
  (bif ((decide (i_20 ≤ j_18)) == true) then ((idxN (data_21).length a_2).bind fun k22 =>
  ((atO data_21 k22 fun e23 => some e23)).bind fun y24 =>
  (idxN (data_21).length i_20).bind fun k25 =>
  ((atO data_21 k25 fun e26 => some e26)).bind fun y27 =>
  (e_cmp_Less_int n_ (y24, y27, ())).bind fun (r28, _) =>
  (bif (!r28) then (
  some (.inl (data_21, ()))) else (
  some (.inr (.inr (i_20, data_21, ())))))) else (some (.inr (.inr (i_20, data_21, ())))))) fun q => match q with
  | .inl (data_29, _) => (
  some (.inl ((IntKind.i64.wrap (i_20 + ((1) : Int))), data_29, ())))
  | .inr r => some r) n_ (i_17, data_19, ())).bind fun (i_30, data_31, _) =>
  (loopN (σ := (Int × (List Int) × Unit)) (ρ := (Int × (List Int) × Unit)) (fun (j_32, data_33, _) =>
  Option.bind (α := ((List Int) × Unit) ⊕ ((Int × (List Int) × Unit) ⊕ (Int × (List Int) × Unit))) (
  (bif ((decide (i_30 ≤ j_32)) == true) then ((idxN (data_33).length a_2).bind fun k34 =>
  ((atO data_33 k34 fun e35 => some e35)).bind fun y36 =>
  (idxN (data_33).length j_32).bind fun k37 =>
  ((atO data_33 k37 fun e38 => some e38)).bind fun y39 =>
  (e_cmp_Less_int n_ (y36, y39, ())).bind fun (r40, _) =>
  (bif r40 then (
  some (.inl (data_33, ()))) else (
  some (.inr (.inr (j_32, data_33, ())))))) else (some (.inr (.inr (j_32, data_33, ())))))) fun q => match q with
  | .inl (data_41, _) => (
  some (.inl ((IntKind.i64.wrap (j_32 - ((1) : Int))), data_41, ())))
  | .inr r => some r) n_ (j_18, data_31, ())).bind fun (j_42, data_43, _) =>
  (bif (decide (i_30 > j_42)) then (
  some (.inr (i_30, data_43, ()))) else (
  (idxN (data_43).length j_42).bind fun k44 =>
  ((atO data_43 k44 fun e45 => some e45)).bind fun y46 =>
  (idxN (data_43).length i_30).bind fun k47 =>
  ((atO data_43 k47 fun e48 => some e48)).bind fun y49 =>
  (idxN (data_43).length i_30).bind fun k50 =>
  ((atO data_43 k50 fun _ => some ((data_43).set k50 y46))).bind fun z52 =>
  (idxN (z52).length j_42).bind fun k53 =>
  ((atO z52 k53 fun _ => some ((z52).set k53 y49))).bind fun z55 =>
  some (.inl ((IntKind.i64.wrap (i_30 + ((1) : Int))), (IntKind.i64.wrap (j_42 - ((1) : Int))), z55, ()))))) n_ ((IntKind.i64.wrap (a_2 + ((1) : Int))), (IntKind.i64.wrap (b_3 - ((1) : Int))), z16, ())).bind fun (i_56, data_57, _) =>
  some (data_57, i_56, ())
set_option maxHeartbeats 4000000 in
theorem le_slices_partitionEqualOrdered_int (n_ : Nat) (a : ((List Int) × Int × Int × Int × Unit)) : Le (e_slices_partitionEqualOrdered_int n_ a) (d_slices_partitionEqualOrdered_int a) := by
  unfold e_slices_partitionEqualOrdered_int d_slices_partitionEqualOrdered_int
  repeat' (first | with_reducible exact Le.refl _ | with_reducible exact le_cmp_Less_int _ _ | (with_reducible refine Le.bind ?_ (fun y => ?_)) | (with_reducible refine Le.bif ?_ ?_) | (with_reducible refine Le.loop (fun s => ?_) _ _) | (with_reducible refine Le.atO (fun e => ?_)) | split)
noncomputable def e_slices_partitionOrdered_int (n_ : Nat) : ((List Int) × Int × Int × Int × Unit) → Option ((List Int) × Int × Bool × Unit) := fun (data_1, a_2, b_3, pivot_4, _) =>
  (idxN (data_1).length pivot_4).bind fun k5 =>
  ((atO data_1 k5 fun e6 => some e6)).bind fun y7 =>
  (idxN (data_1).length a_2).bind fun k8 =>
  ((atO data_1 k8 fun e9 => some e9)).bind fun y10 =>
  (idxN (data_1).length a_2).bind fun k11 =>
  ((atO data_1 k11 fun _ => some ((data_1).set k11 y7))).bind fun z13 =>
  (idxN (z13).length pivot_4).bind fun k14 =>
  ((atO z13 k14 fun _ => some ((z13).set k14 y10))).bind fun z16 =>
  (loopN (σ := (Int × (List Int) × Unit)) (ρ := (Int × (List Int) × Unit)) (fun (i_17, data_18, _) =>
  Option.bind (α := ((List Int) × Unit) ⊕ ((Int × (List Int) × Unit) ⊕ (Int × (List Int) × Unit))) (
  (bif ((decide (i_17 ≤ (IntKind.i64.wrap (b_3 - ((1) : Int))))) == true) then ((idxN (data_18).length i_17).bind fun k19 =>
  ((atO data_18 k19 fun e20 => some e20)).bind fun y21 =>
  (idxN (data_18).length a_2).bind fun k22 =>
  ((atO data_18 k22 fun e23 => some e23)).bind fun y24 =>
  (e_cmp_Less_int n_ (y21, y24, ())).bind fun (r25, _) =>
  (bif r25 then (
  some (.inl (data_18, ()))) else (
  some (.inr (.inr (i_17, data_18, ())))))) else (some (.inr (.inr (i_17, data_18, ())))))) fun q => match q with
  | .inl (data_26, _) => (
  some (.inl ((IntKind.i64.wrap (i_17 + ((1) : Int))), data_26, ())))
  | .inr r => some r) n_ ((IntKind.i64.wrap (a_2 + ((1) : Int))), z16, ())).bind fun (i_27, data_28, _) =>
  (loopN (σ := (Int × (List Int) × Unit)) (ρ := (Int × (List Int) × Unit)) (fun (j_29, data_30, _) =>
  Option.bind (α := ((List Int) × Unit) ⊕ ((Int × (List Int) × Unit) ⊕ (Int × (List Int) × Unit))) (
  (bif ((decide (i_27 ≤ j_29)) == true) then ((idxN (data_30).length j_29).bind fun k31 =>
  ((atO data_30 k31 fun e32 => some e32)).bind fun y33 =>
  (idxN (data_30).length a_2).bind fun k34 =>
  ((atO data_30 k34 fun e35 => some e35)).bind fun y36 =>
  (e_cmp_Less_int n_ (y33, y36, ())).bind fun (r37, _) =>
  (bif (!r37) then (
  some (.inl (data_30, ()))) else (
  some (.inr (.inr (j_29, data_30, ())))))) else (some (.inr (.inr (j_29, data_30, ())))))) fun q => match q with
  | .inl (data_38, _) => (
  some (.inl ((IntKind.i64.wrap (j_29 - ((1) : Int))), data_38, ())))
  | .inr r => some r) n_ ((IntKind.i64.wrap (b_3 - ((1) : Int))), data_28, ())).bind fun (j_39, data_40, _) =>
  (bif (decide (i_27 > j_39)) then (
  (idxN (data_40).length a_2).bind fun k41 =>
  ((atO data_40 k41 fun e42 => some e42)).bind fun y43 =>
  (idxN (data_40).length j_39).bind fun k44 =>
  ((atO data_40 k44 fun e45 => some e45)).bind fun y46 =>
  (idxN (data_40).length j_39).bind fun k47 =>
  ((atO data_40 k47 fun _ => some ((data_40).set k47 y43))).bind fun z49 =>
  (idxN (z49).length a_2).bind fun k50 =>
  ((atO z49 k50 fun _ => some ((z49).set k50 y46))).bind fun z52 =>
  some (z52, j_39, true, ())) else (
  (idxN (data_40).length j_39).bind fun k53 =>
  ((atO data_40 k53 fun e54 => some e54)).bind fun y55 =>
  (idxN (data_40).length i_27).bind fun k56 =>
  ((atO data_40 k56 fun e57 => some e57)).bind fun y58 =>
  (idxN (data_40).length i_27).bind fun k59 =>
  ((atO data_40 k59 fun _ => some ((data_40).set k59 y55))).bind fun z61 =>
  (idxN (z61).length j_39).bind fun k62 =>
  ((atO z61 k62 fun _ => some ((z61).set k62 y58))).bind fun z64 =>
  (loopN (σ := (Int × Int × (List Int) × Unit)) (ρ := (Int × (List Int) × Unit)) (fun (i_65, j_66, data_67, _) =>
  (loopN (σ := (Int × (List Int) × Unit)) (ρ := (Int × (List Int) × Unit)) (fun (i_68, data_69, _) =>
  Option.bind (α := ((List Int) × Unit) ⊕ ((Int × (List Int) × Unit) ⊕ (Int × (List Int) × Unit))) (
  (bif ((decide (i_68 ≤ j_66)) == true) then ((idxN (data_69).length i_68).bind fun k70 =>
  ((atO data_69 k70 fun e71 => some e71)).bind fun y72 =>
  (idxN (data_69).length a_2).bind fun k73 =>
  ((atO data_69 k73 fun e74 => some e74)).bind fun y75 =>
  (e_cmp_Less_int n_ (y72, y75, ())).bind fun (r76, _) =>
  (bif r76 then (
  some (.inl (data_69, ()))) else (
  some (.inr (.inr (i_68, data_69, ())))))) else (some (.inr (.inr (i_68, data_69, ())))))) fun q => match q with
  | .inl (data_77, _) => (
  some (.inl ((IntKind.i64.wrap (i_68 + ((1) : Int))), data_77, ())))
  | .inr r => some r) n_ (i_65, data_67, ())).bind fun (i_78, data_79, _) =>
  (loopN (σ := (Int × (List Int) × Unit)) (ρ := (Int × (List Int) × Unit)) (fun (j_80, data_81, _) =>
  Option.bind (α := ((List Int) × Unit) ⊕ ((Int × (List Int) × Unit) ⊕ (Int × (List Int) × Unit))) (
  (bif ((decide (i_78 ≤ j_80)) == true) then ((idxN (data_81).length j_80).bind fun k82 =>
  ((atO data_81 k82 fun e83 => some e83)).bind fun y84 =>
  (idxN (data_81).length a_2).bind fun k85 =>
  ((atO data_81 k85 fun e86 => some e86)).bind fun y87 =>
  (e_cmp_Less_int n_ (y84, y87, ())).bind fun (r88, _) =>
  (bif (!r88) then (
  some (.inl (data_81, ()))) else (
  some (.inr (.inr (j_80, data_81, ())))))) else (some (.inr (.inr (j_80, data_81, ())))))) fun q => match q with
  | .inl (data_89, _) => (
  some (.inl ((IntKind.i64.wrap (j_80 - ((1) : Int))), data_89, ())))
  | .inr r => some r) n_ (j_66, data_79, ())).bind fun (j_90, data_91, _) =>
  (bif (decide (i_78 > j_90)) then (
  some (.inr (j_90, data_91, ()))) else (
  (idxN (data_91).length j_90).bind fun k92 =>
  ((atO data_91 k92 fun e93 => some e93)).bind fun y94 =>
  (idxN (data_91).length i_78).bind fun k95 =>
  ((atO data_91 k95 fun e96 => some e96)).bind fun y97 =>
  (idxN (data_91).length i_78).bind fun k98 =>
  ((atO data_91 k98 fun _ => some ((data_91).set k98 y94))).bind fun z100 =>
  (idxN (z100).length j_90).bind fun k101 =>
  ((atO z100 k101 fun _ => some ((z100).set k101 y97))).bind fun z103 =>
  some (.inl ((IntKind.i64.wrap (i_78 + ((1) : Int))), (IntKind.i64.wrap (j_90 - ((1) : Int))), z103, ()))))) n_ ((IntKind.i64.wrap (i_27 + ((1) : Int))), (IntKind.i64.wrap (j_39 - ((1) : Int))), z64, ())).bind fun (j_104, data_105, _) =>
  (idxN (data_105).length a_2).bind fun k106 =>
  ((atO data_105 k106 fun e107 => some e107)).bind fun y108 =>
  (idxN (data_105).length j_104).bind fun k109 =>
  ((atO data_105 k109 fun e110 => some e110)).bind fun y111 =>
  (idxN (data_105).length j_104).bind fun k112 =>
  ((atO data_105 k112 fun _ => some ((data_105).set k112 y108))).bind fun z114 =>
  (idxN (z114).length a_2).bind fun k115 =>
  ((atO z114 k115 fun _ => some ((z114).set k115 y111))).bind fun z117 =>
  some (z117, j_104, false, ())))
set_option maxHeartbeats 4000000 in
theorem le_slices_partitionOrdered_int (n_ : Nat) (a : ((List Int) × Int × Int × Int × Unit)) : Le (e_slices_partitionOrdered_int n_ a) (d_slices_partitionOrdered_int a) := by
  unfold e_slices_partitionOrdered_int d_slices_partitionOrdered_int
  repeat' (first | with_reducible exact Le.refl _ | with_reducible exact le_cmp_Less_int _ _ | (with_reducible refine Le.bind ?_ (fun y => ?_)) | (with_reducible refine Le.bif ?_ ?_) | (with_reducible refine Le.loop (fun s => ?_) _ _) | (with_reducible refine Le.atO (fun e => ?_)) | split)
noncomputable def e_slices_pdqsortOrdered_intq_s (n_ : Nat) (f_ : ((List Int) × Int × Int × Int × Unit) → Option ((List Int) × Unit)) : ((List Int) × Int × Int × Int × Unit) → Option ((List Int) × Unit) := fun (data_1, a_2, b_3, limit_4, _) =>
  (loopN (σ := (Int × Int × Int × Bool × Bool × (List Int) × Unit)) (ρ := ((List Int) × Unit)) (fun (a_5, b_6, limit_7, wasBalanced_8, wasPartitioned_9, data_10, _) =>
  (bif (decide ((IntKind.i64.wrap (b_6 - a_5)) ≤ ((12) : Int))) then (
  (e_slices_insertionSortOrdered_int n_ (data_10, a_5, b_6, ())).bind fun (m11, _) =>
  some (.inr (m11, ()))) else (
  (bif (limit_7 == ((0) : Int)) then (
  (e_slices_heapSortOrdered_int n_ (data_10, a_5, b_6, ())).bind fun (m12, _) =>
  some (.inr (m12, ()))) else (
  Option.bind (α := (Int × (List Int) × Unit)) (
  (bif (!wasBalanced_8) then (
  (e_slices_breakPatternsOrdered_int n_ (data_10, a_5, b_6, ())).bind fun (m13, _) =>
  some ((IntKind.i64.wrap (limit_7 - ((1) : Int))), m13, ())) else (
  some (limit_7, data_10, ())))) fun (limit_14, data_15, _) =>
  (e_slices_choosePivotOrdered_int n_ (data_15, a_5, b_6, ())).bind fun (r16, r17, _) =>
  Option.bind (α := (Int × Int × (List Int) × Unit)) (
  (bif (r17 == ((2) : Int)) then (
  (e_slices_reverseRangeOrdered_int n_ (data_15, a_5, b_6, ())).bind fun (m18, _) =>
  some ((IntKind.i64.wrap ((IntKind.i64.wrap (b_6 - ((1) : Int))) - (IntKind.i64.wrap (r16 - a_5)))), ((1) : Int), m18, ())) else (
  some (r16, r17, data_15, ())))) fun (pivot_19, hint_20, data_21, _) =>
  Option.bind (α := ((List Int) × Unit) ⊕ ((Int × Int × Int × Bool × Bool × (List Int) × Unit) ⊕ ((List Int) × Unit))) (
  Option.bind (α := (Bool × (List Int) × Unit)) (
  (bif (wasBalanced_8 == true) then ((bif (wasPartitioned_9 == true) then (some ((hint_20 == ((1) : Int)), data_21, ())) else (some (false, data_21, ())))) else (some (false, data_21, ())))) fun (s_22, data_23, _) =>
  (bif s_22 then (
  (e_slices_partialInsertionSortOrdered_int n_ (data_23, a_5, b_6, ())).bind fun (m24, r25, _) =>
  (bif r25 then (
  some (.inr (.inr (m24, ())))) else (
  some (.inl (m24, ()))))) else (
  some (.inl (data_23, ()))))) fun q => match q with
  | .inl (data_26, _) => (
  Option.bind (α := (Int × (List Int) × Unit) ⊕ ((Int × Int × Int × Bool × Bool × (List Int) × Unit) ⊕ ((List Int) × Unit))) (
  Option.bind (α := (Bool × (List Int) × Unit)) (
  (bif ((decide (a_5 > ((0) : Int))) == true) then ((idxN (data_26).length (IntKind.i64.wrap (a_5 - ((1) : Int)))).bind fun k27 =>
  ((atO data_26 k27 fun e28 => some e28)).bind fun y29 =>
  (idxN (data_26).length pivot_19).bind fun k30 =>
  ((atO data_26 k30 fun e31 => some e31)).bind fun y32 =>
  (e_cmp_Less_int n_ (y29, y32, ())).bind fun (r33, _) =>
  some ((!r33), data_26, ())) else (some (false, data_26, ())))) fun (s_34, data_35, _) =>
  (bif s_34 then (
  (e_slices_partitionEqualOrdered_int n_ (data_35, a_5, b_6, pivot_19, ())).bind fun (m36, r37, _) =>
  some (.inr (.inl (r37, b_6, limit_14, wasBalanced_8, wasPartitioned_9, m36, ())))) else (
  some (.inl (a_5, data_35, ()))))) fun q => match q with
  | .inl (a_38, data_39, _) => (
  (e_slices_partitionOrdered_int n_ (data_39, a_38, b_6, pivot_19, ())).bind fun (m40, r41, r42, _) =>
  (quoO IntKind.i64 (IntKind.i64.wrap (b_6 - a_5)) ((8) : Int)).bind fun y43 =>
  (bif (decide ((IntKind.i64.wrap (r41 - a_38)) < (IntKind.i64.wrap (b_6 - r41)))) then (
  (f_ (m40, a_38, r41, limit_14, ())).bind fun (m44, _) =>
  some (.inl ((IntKind.i64.wrap (r41 + ((1) : Int))), b_6, limit_14, (decide ((IntKind.i64.wrap (r41 - a_38)) ≥ y43)), r42, m44, ()))) else (
  (f_ (m40, (IntKind.i64.wrap (r41 + ((1) : Int))), b_6, limit_14, ())).bind fun (m45, _) =>
  some (.inl (a_38, r41, limit_14, (decide ((IntKind.i64.wrap (b_6 - r41)) ≥ y43)), r42, m45, ())))))
  | .inr r => some r)
  | .inr r => some r))))) n_ (a_2, b_3, limit_4, true, true, data_1, ())).bind some
set_option maxHeartbeats 4000000 in
theorem le_slices_pdqsortOrdered_intq_s (n_ : Nat) (f_ fb_ : ((List Int) × Int × Int × Int × Unit) → Option ((List Int) × Unit)) (h_ : ∀ a, Le (f_ a) (fb_ a)) (a : ((List Int) × Int × Int × Int × Unit)) : Le (e_slices_pdqsortOrdered_intq_s n_ f_ a) (r_slices_pdqsortOrdered_intq_s fb_ a) := by
  unfold e_slices_pdqsortOrdered_intq_s r_slices_pdqsortOrdered_intq_s
  repeat' (first | with_reducible exact Le.refl _ | with_reducible exact le_slices_insertionSortOrdered_int _ _ | with_reducible exact le_slices_heapSortOrdered_int _ _ | with_reducible exact le_slices_breakPatternsOrdered_int _ _ | with_reducible exact le_slices_choosePivotOrdered_int _ _ | with_reducible exact le_slices_reverseRangeOrdered_int _ _ | with_reducible exact le_slices_partialInsertionSortOrdered_int _ _ | with_reducible exact le_cmp_Less_int _ _ | with_reducible exact le_slices_partitionEqualOrdered_int _ _ | with_reducible exact le_slices_partitionOrdered_int _ _ | with_reducible exact h_ _ | (with_reducible refine Le.bind ?_ (fun y => ?_)) | (with_reducible refine Le.bif ?_ ?_) | (with_reducible refine Le.loop (fun s => ?_) _ _) | (with_reducible refine Le.atO (fun e => ?_)) | split)
noncomputable def e_slices_pdqsortOrdered_int (n_ : Nat) : ((List Int) × Int × Int × Int × Unit) → Option ((List Int) × Unit) := deep (e_slices_pdqsortOrdered_intq_s n_) n_
theorem le_slices_pdqsortOrdered_int (n_ : Nat) (a : ((List Int) × Int × Int × Int × Unit)) : Le (e_slices_pdqsortOrdered_int n_ a) (d_slices_pdqsortOrdered_int a) := Le.deep (le_slices_pdqsortOrdered_intq_s n_) r_slices_pdqsortOrdered_intq_mono n_ a
noncomputable def e_slices_Sort_int_int (n_ : Nat) : ((List Int) × Unit) → Option ((List Int) × Unit) := fun (x_1, _) =>
  (e_math_bits_Len n_ ((IntKind.u64.wrap (((x_1).length : Nat) : Int)), ())).bind fun (r2, _) =>
  (e_slices_pdqsortOrdered_int n_ (x_1, ((0) : Int), (((x_1).length : Nat) : Int), r2, ())).bind fun (m3, _) =>
  some (m3, ())
set_option maxHeartbeats 4000000 in
theorem le_slices_Sort_int_int (n_ : Nat) (a : ((List Int) × Unit)) : Le (e_slices_Sort_int_int n_ a) (d_slices_Sort_int_int a) := by
  unfold e_slices_Sort_int_int d_slices_Sort_int_int
  repeat' (first | with_reducible exact Le.refl _ | with_reducible exact le_slices_pdqsortOrdered_int _ _ | with_reducible exact le_math_bits_Len _ _ | (with_reducible refine Le.bind ?_ (fun y => ?_)) | (with_reducible refine Le.bif ?_ ?_) | (with_reducible refine Le.loop (fun s => ?_) _ _) | (with_reducible refine Le.atO (fun e => ?_)) | split)
noncomputable def e_graph_levels (n_ : Nat) : (((List (List Int)) × Unit) × Int × Unit) → Option ((List (List Int)) × Unit) := fun (g_1, root_2, _) =>
  (madeO (((g_1.1).length : Nat) : Int) (((g_1.1).length : Nat) : Int)).bind fun n48 =>
  (idxN ((List.replicate n48 false)).length root_2).bind fun k49 =>
  ((atO (List.replicate n48 false) k49 fun _ => some (((List.replicate n48 false)).set k49 true))).bind fun z51 =>
  (loopN (σ := ((List Int) × (List Bool) × (List (List Int)) × Unit)) (ρ := ((List (List Int)) × Unit)) (fun (now_52, seen_53, out_54, _) =>
  (bif (decide ((((now_52).length : Nat) : Int) > ((0) : Int))) then (
  (limO ((out_54).length + ([now_52]).length)).bind fun _ =>
  (loopN (σ := (Int × (List Bool) × (List (List Int)) × (List Int) × Unit)) (ρ := ((List Bool) × (List (List Int)) × (List Int) × Unit)) (fun (s_55, seen_56, out_57, next_58, _) =>
  (bif (decide (s_55 < (((now_52).length : Nat) : Int))) then (
  (getI now_52 s_55).bind fun y59 =>
  (getI g_1.1 y59).bind fun y60 =>
  (loopN (σ := (Int × (List Bool) × (List (List Int)) × (List Int) × Unit)) (ρ := ((List Bool) × (List (List Int)) × (List Int) × Unit)) (fun (s_61, seen_62, out_63, next_64, _) =>
  (bif (decide (s_61 < (((y60).length : Nat) : Int))) then (
  Option.bind (α := ((List Bool) × (List (List Int)) × (List Int) × Unit)) (
  (getI y60 s_61).bind fun y65 =>
  (idxN (seen_62).length y65).bind fun k66 =>
  ((atO seen_62 k66 fun e67 => some e67)).bind fun y68 =>
  (bif (!y68) then (
  (idxN (seen_62).length y65).bind fun k69 =>
  ((atO seen_62 k69 fun _ => some ((seen_62).set k69 true))).bind fun z71 =>
  (limO ((next_64).length + ([y65]).length)).bind fun _ =>
  some (z71, out_63, (next_64 ++ [y65]), ())) else (
  some (seen_62, out_63, next_64, ())))) fun (seen_72, out_73, next_74, _) =>
  some (.inl ((IntKind.i64.wrap (s_61 + ((1) : Int))), seen_72, out_73, next_74, ()))) else (
  some (.inr (seen_62, out_63, next_64, ()))))) n_ (((0) : Int), seen_56, out_57, next_58, ())).bind fun (seen_75, out_76, next_77, _) =>
  some (.inl ((IntKind.i64.wrap (s_55 + ((1) : Int))), seen_75, out_76, next_77, ()))) else (
  some (.inr (seen_56, out_57, next_58, ()))))) n_ (((0) : Int), seen_53, (out_54 ++ [now_52]), [], ())).bind fun (seen_78, out_79, next_80, _) =>
  (e_slices_Sort_int_int n_ (next_80, ())).bind fun (m81, _) =>
  some (.inl (m81, seen_78, out_79, ()))) else (
  some (.inr (out_54, ()))))) n_ ([root_2], z51, [], ())).bind fun (out_82, _) =>
  some (out_82, ())
set_option maxHeartbeats 4000000 in
theorem le_graph_levels (n_ : Nat) (a : (((List (List Int)) × Unit) × Int × Unit)) : Le (e_graph_levels n_ a) (d_graph_levels a) := by
  unfold e_graph_levels d_graph_levels
  repeat' (first | with_reducible exact Le.refl _ | with_reducible exact le_slices_Sort_int_int _ _ | (with_reducible refine Le.bind ?_ (fun y => ?_)) | (with_reducible refine Le.bif ?_ ?_) | (with_reducible refine Le.loop (fun s => ?_) _ _) | (with_reducible refine Le.atO (fun e => ?_)) | split)
noncomputable def e_slices_Grow_int_int (n_ : Nat) : Unit × Int × Unit → Option (List Int × Unit) := fun a => (grSem a.2.1).map fun r => (r, ())
theorem le_slices_Grow_int_int (n_ : Nat) (a : Unit × Int × Unit) : Le (e_slices_Grow_int_int n_ a) (d_slices_Grow_int_int a) := Le.refl _
noncomputable def e_slices_Concat_int_int (n_ : Nat) : ((List (List Int)) × Unit) → Option ((List Int) × Unit) := fun (slices_1, _) =>
  (loopN (σ := (Int × Int × Unit)) (ρ := (Int × Unit)) (fun (size_2, s_3, _) =>
  (bif (decide (s_3 < (((slices_1).length : Nat) : Int))) then (
  Option.bind (α := (Int × Unit)) (
  (getI slices_1 s_3).bind fun y4 =>
  (bif (decide ((IntKind.i64.wrap (size_2 + (((y4).length : Nat) : Int))) < ((0) : Int))) then (
  none) else (
  some ((IntKind.i64.wrap (size_2 + (((y4).length : Nat) : Int))), ())))) fun (size_5, _) =>
  some (.inl (size_5, (IntKind.i64.wrap (s_3 + ((1) : Int))), ()))) else (
  some (.inr (size_2, ()))))) n_ (((0) : Int), ((0) : Int), ())).bind fun (size_6, _) =>
  (e_slices_Grow_int_int n_ ((), size_6, ())).bind fun (r7, _) =>
  (loopN (σ := (Int × (List Int) × Unit)) (ρ := ((List Int) × Unit)) (fun (s_8, newslice_9, _) =>
  (bif (decide (s_8 < (((slices_1).length : Nat) : Int))) then (
  (getI slices_1 s_8).bind fun y10 =>
  (limO ((newslice_9).length + (y10).length)).bind fun _ =>
  some (.inl ((IntKind.i64.wrap (s_8 + ((1) : Int))), (newslice_9 ++ y10), ()))) else (
  some (.inr (newslice_9, ()))))) n_ (((0) : Int), r7, ())).bind fun (newslice_11, _) =>
  some (newslice_11, ())
set_option maxHeartbeats 4000000 in
theorem le_slices_Concat_int_int (n_ : Nat) (a : ((List (List Int)) × Unit)) : Le (e_slices_Concat_int_int n_ a) (d_slices_Concat_int_int a) := by
  unfold e_slices_Concat_int_int d_slices_Concat_int_int
  repeat' (first | with_reducible exact Le.refl _ | with_reducible exact le_slices_Grow_int_int _ _ | (with_reducible refine Le.bind ?_ (fun y => ?_)) | (with_reducible refine Le.bif ?_ ?_) | (with_reducible refine Le.loop (fun s => ?_) _ _) | (with_reducible refine Le.atO (fun e => ?_)) | split)
noncomputable def e_graph_Components (n_ : Nat) : (((List (List Int)) × Unit) × Unit) → Option ((List (List Int)) × Unit) := fun (g_1, _) =>
  (e_graph_Check n_ (g_1, ())).bind fun (r55, _) =>
  (bif (r55 != ((0) : Int)) then (
  some ([], ())) else (
  (madeO (((g_1.1).length : Nat) : Int) (((g_1.1).length : Nat) : Int)).bind fun n56 =>
  (loopN (σ := (Int × (List Bool) × (List (List Int)) × Unit)) (ρ := ((List (List Int)) × Unit)) (fun (s_57, seen_58, out_59, _) =>
  (bif (decide (s_57 < (((g_1.1).length : Nat) : Int))) then (
  Option.bind (α := ((List Bool) × (List (List Int)) × Unit)) (
  (idxN (seen_58).length s_57).bind fun k60 =>
  ((atO seen_58 k60 fun e61 => some e61)).bind fun y62 =>
  (bif y62 then (
  some (seen_58, out_59, ())) else (
  (e_graph_levels n_ (g_1, s_57, ())).bind fun (r63, _) =>
  (e_slices_Concat_int_int n_ (r63, ())).bind fun (r64, _) =>
  (e_slices_Sort_int_int n_ (r64, ())).bind fun (m65, _) =>
  (loopN (σ := (Int × (List Bool) × (List (List Int)) × (List Int) × Unit)) (ρ := ((List Bool) × (List (List Int)) × (List Int) × Unit)) (fun (s_66, seen_67, out_68, part_69, _) =>
  (bif (decide (s_66 < (((m65).length : Nat) : Int))) then (
  (idxN (part_69).length s_66).bind fun k70 =>
  ((atO part_69 k70 fun e71 => some e71)).bind fun y72 =>
  (idxN (seen_67).length y72).bind fun k73 =>
  ((atO seen_67 k73 fun _ => some ((seen_67).set k73 true))).bind fun z75 =>
  some (.inl ((IntKind.i64.wrap (s_66 + ((1) : Int))), z75, out_68, part_69, ()))) else (
  some (.inr (seen_67, out_68, part_69, ()))))) n_ (((0) : Int), seen_58, out_59, m65, ())).bind fun (seen_76, out_77, part_78, _) =>
  (limO ((out_77).length + ([part_78]).length)).bind fun _ =>
  some (seen_76, (out_77 ++ [part_78]), ())))) fun (seen_79, out_80, _) =>
  some (.inl ((IntKind.i64.wrap (s_57 + ((1) : Int))), seen_79, out_80, ()))) else (
  some (.inr (out_59, ()))))) n_ (((0) : Int), (List.replicate n56 false), [], ())).bind fun (out_81, _) =>
  some (out_81, ())))
set_option maxHeartbeats 4000000 in
theorem le_graph_Components (n_ : Nat) (a : (((List (List Int)) × Unit) × Unit)) : Le (e_graph_Components n_ a) (d_graph_Components a) := by
  unfold e_graph_Components d_graph_Components
  repeat' (first | with_reducible exact Le.refl _ | with_reducible exact le_graph_Check _ _ | with_reducible exact le_slices_Concat_int_int _ _ | with_reducible exact le_graph_levels _ _ | with_reducible exact le_slices_Sort_int_int _ _ | (with_reducible refine Le.bind ?_ (fun y => ?_)) | (with_reducible refine Le.bif ?_ ?_) | (with_reducible refine Le.loop (fun s => ?_) _ _) | (with_reducible refine Le.atO (fun e => ?_)) | split)
noncomputable def e_graph_vertex (n_ : Nat) : (((List (List Int)) × Unit) × Int × Unit) → Option (Bool × Unit) := fun (g_1, v_2, _) =>
  (bif ((decide (v_2 ≥ ((0) : Int))) == true) then (some ((decide (v_2 < (((g_1.1).length : Nat) : Int))), ())) else (some (false, ())))
set_option maxHeartbeats 4000000 in
theorem le_graph_vertex (n_ : Nat) (a : (((List (List Int)) × Unit) × Int × Unit)) : Le (e_graph_vertex n_ a) (d_graph_vertex a) := by
  unfold e_graph_vertex d_graph_vertex
  repeat' (first | with_reducible exact Le.refl _  | (with_reducible refine Le.bind ?_ (fun y => ?_)) | (with_reducible refine Le.bif ?_ ?_) | (with_reducible refine Le.loop (fun s => ?_) _ _) | (with_reducible refine Le.atO (fun e => ?_)) | split)
noncomputable def e_graph_Peripheral (n_ : Nat) : (((List (List Int)) × Unit) × Int × Unit) → Option (Int × Unit) := fun (g_1, v_2, _) =>
  Option.bind (α := Unit ⊕ (Int × Unit)) (
  (e_graph_Check n_ (g_1, ())).bind fun (r3, _) =>
  (bif ((r3 != ((0) : Int)) == false) then ((e_graph_vertex n_ (g_1, v_2, ())).bind fun (r4, _) =>
  (bif (!r4) then (
  some (.inr ((-1 : Int), ()))) else (
  some (.inl ())))) else (some (.inr ((-1 : Int), ()))))) fun q => match q with
  | .inl _ => (
  (e_graph_levels n_ (g_1, v_2, ())).bind fun (r5, _) =>
  (loopN (σ := (Int × (List (List Int)) × Unit)) (ρ := (Int × Unit)) (fun (v_6, now_7, _) =>
  (getI now_7 (IntKind.i64.wrap ((((now_7).length : Nat) : Int) - ((1) : Int)))).bind fun y8 =>
  (getI y8 ((0) : Int)).bind fun y9 =>
  (loopN (σ := (Int × Int × Unit)) (ρ := (Int × Unit)) (fun (w_10, s_11, _) =>
  (bif (decide (s_11 < (((y8).length : Nat) : Int))) then (
  Option.bind (α := (Int × Unit)) (
  (getI y8 s_11).bind fun y12 =>
  (getI g_1.1 y12).bind fun y13 =>
  (getI g_1.1 w_10).bind fun y14 =>
  (bif (decide ((((y13).length : Nat) : Int) < (((y14).length : Nat) : Int))) then (
  some (y12, ())) else (
  some (w_10, ())))) fun (w_15, _) =>
  some (.inl (w_15, (IntKind.i64.wrap (s_11 + ((1) : Int))), ()))) else (
  some (.inr (w_10, ()))))) n_ (y9, ((0) : Int), ())).bind fun (w_16, _) =>
  (e_graph_levels n_ (g_1, w_16, ())).bind fun (r17, _) =>
  (bif (decide ((((r17).length : Nat) : Int) ≤ (((now_7).length : Nat) : Int))) then (
  some (.inr (v_6, ()))) else (
  some (.inl (w_16, r17, ()))))) n_ (v_2, r5, ())).bind some)
  | .inr r => some r
set_option maxHeartbeats 4000000 in
theorem le_graph_Peripheral (n_ : Nat) (a : (((List (List Int)) × Unit) × Int × Unit)) : Le (e_graph_Peripheral n_ a) (d_graph_Peripheral a) := by
  unfold e_graph_Peripheral d_graph_Peripheral
  repeat' (first | with_reducible exact Le.refl _ | with_reducible exact le_graph_Check _ _ | with_reducible exact le_graph_levels _ _ | with_reducible exact le_graph_vertex _ _ | (with_reducible refine Le.bind ?_ (fun y => ?_)) | (with_reducible refine Le.bif ?_ ?_) | (with_reducible refine Le.loop (fun s => ?_) _ _) | (with_reducible refine Le.atO (fun e => ?_)) | split)
noncomputable def e_cmp_Compare_int (n_ : Nat) : (Int × Int × Unit) → Option (Int × Unit) := fun (x_1, y_2, _) =>
  (e_cmp_isNaN_int n_ (x_1, ())).bind fun (r3, _) =>
  (e_cmp_isNaN_int n_ (y_2, ())).bind fun (r4, _) =>
  (bif r3 then (
  (bif r4 then (
  some (((0) : Int), ())) else (
  some ((-1 : Int), ())))) else (
  (bif r4 then (
  some (((1) : Int), ())) else (
  (bif (decide (x_1 < y_2)) then (
  some ((-1 : Int), ())) else (
  (bif (decide (x_1 > y_2)) then (
  some (((1) : Int), ())) else (
  some (((0) : Int), ())))))))))
set_option maxHeartbeats 4000000 in
theorem le_cmp_Compare_int (n_ : Nat) (a : (Int × Int × Unit)) : Le (e_cmp_Compare_int n_ a) (d_cmp_Compare_int a) := by
  unfold e_cmp_Compare_int d_cmp_Compare_int
  repeat' (first | with_reducible exact Le.refl _ | with_reducible exact le_cmp_isNaN_int _ _ | (with_reducible refine Le.bind ?_ (fun y => ?_)) | (with_reducible refine Le.bif ?_ ?_) | (with_reducible refine Le.loop (fun s => ?_) _ _) | (with_reducible refine Le.atO (fun e => ?_)) | split)
noncomputable def e_cmp_Or_int (n_ : Nat) : ((List Int) × Unit) → Option (Int × Unit) := fun (vals_1, _) =>
  (loopN (σ := (Int × Unit)) (ρ := (Unit ⊕ (Int × Unit))) (fun (s_2, _) =>
  (bif (decide (s_2 < (((vals_1).length : Nat) : Int))) then (
  (getI vals_1 s_2).bind fun y3 =>
  (bif (y3 != ((0) : Int)) then (
  some (.inr (.inr (y3, ())))) else (
  some (.inl ((IntKind.i64.wrap (s_2 + ((1) : Int))), ()))))) else (
  some (.inr (.inl ()))))) n_ (((0) : Int), ())).bind fun q => match q with
  | .inl _ => (
  some (((0) : Int), ()))
  | .inr r => some r
set_option maxHeartbeats 4000000 in
theorem le_cmp_Or_int (n_ : Nat) (a : ((List Int) × Unit)) : Le (e_cmp_Or_int n_ a) (d_cmp_Or_int a) := by
  unfold e_cmp_Or_int d_cmp_Or_int
  repeat' (first | with_reducible exact Le.refl _  | (with_reducible refine Le.bind ?_ (fun y => ?_)) | (with_reducible refine Le.bif ?_ ?_) | (with_reducible refine Le.loop (fun s => ?_) _ _) | (with_reducible refine Le.atO (fun e => ?_)) | split)
noncomputable def e_rcm_grow_1q_q0 (n_ : Nat) : (Int × Int × (Option ((List (List Int)) × Unit)) × Unit) → Option (Int × Unit) := fun (a_1, b_2, p_3, _) =>
  (p_3).bind fun y4 =>
  (getI y4.1 a_1).bind fun y5 =>
  (p_3).bind fun y6 =>
  (getI y6.1 b_2).bind fun y7 =>
  (e_cmp_Compare_int n_ ((((y5).length : Nat) : Int), (((y7).length : Nat) : Int), ())).bind fun (r8, _) =>
  (e_cmp_Compare_int n_ (a_1, b_2, ())).bind fun (r9, _) =>
  (e_cmp_Or_int n_ ([r8, r9], ())).bind fun (r10, _) =>
  some (r10, ())
set_option maxHeartbeats 4000000 in
theorem le_rcm_grow_1q_q0 (n_ : Nat) (a : (Int × Int × (Option ((List (List Int)) × Unit)) × Unit)) : Le (e_rcm_grow_1q_q0 n_ a) (d_rcm_grow_1q_q0 a) := by
  unfold e_rcm_grow_1q_q0 d_rcm_grow_1q_q0
  repeat' (first | with_reducible exact Le.refl _ | with_reducible exact le_cmp_Or_int _ _ | with_reducible exact le_cmp_Compare_int _ _ | (with_reducible refine Le.bind ?_ (fun y => ?_)) | (with_reducible refine Le.bif ?_ ?_) | (with_reducible refine Le.loop (fun s => ?_) _ _) | (with_reducible refine Le.atO (fun e => ?_)) | split)
noncomputable def e_slices_insertionSortCmpFunc_int_rcm (n_ : Nat) : ((List Int) × Int × Int × ((Option ((List (List Int)) × Unit)) × Unit) × Unit) → Option ((List Int) × Unit) := fun (data_1, a_2, b_3, cmp_4, _) =>
  (loopN (σ := (Int × (List Int) × Unit)) (ρ := ((List Int) × Unit)) (fun (i_5, data_6, _) =>
  (bif (decide (i_5 < b_3)) then (
  (loopN (σ := (Int × (List Int) × Unit)) (ρ := ((List Int) × Unit)) (fun (j_7, data_8, _) =>
  Option.bind (α := ((List Int) × Unit) ⊕ ((Int × (List Int) × Unit) ⊕ ((List Int) × Unit))) (
  (bif ((decide (j_7 > a_2)) == true) then ((idxN (data_8).length j_7).bind fun k9 =>
  ((atO data_8 k9 fun e10 => some e10)).bind fun y11 =>
  (idxN (data_8).length (IntKind.i64.wrap (j_7 - ((1) : Int)))).bind fun k12 =>
  ((atO data_8 k12 fun e13 => some e13)).bind fun y14 =>
  (e_rcm_grow_1q_q0 n_ (y11, y14, cmp_4.1, ())).bind fun (r15, _) =>
  (bif (decide (r15 < ((0) : Int))) then (
  some (.inl (data_8, ()))) else (
  some (.inr (.inr (data_8, ())))))) else (some (.inr (.inr (data_8, ())))))) fun q => match q with
  | .inl (data_16, _) => (
  (idxN (data_16).length (IntKind.i64.wrap (j_7 - ((1) : Int)))).bind fun k17 =>
  ((atO data_16 k17 fun e18 => some e18)).bind fun y19 =>
  (idxN (data_16).length j_7).bind fun k20 =>
  ((atO data_16 k20 fun e21 => some e21)).bind fun y22 =>
  (idxN (data_16).length j_7).bind fun k23 =>
  ((atO data_16 k23 fun _ => some ((data_16).set k23 y19))).bind fun z25 =>
  (idxN (z25).length (IntKind.i64.wrap (j_7 - ((1) : Int)))).bind fun k26 =>
  ((atO z25 k26 fun _ => some ((z25).set k26 y22))).bind fun z28 =>
  some (.inl ((IntKind.i64.wrap (j_7 - ((1) : Int))), z28, ())))
  | .inr r => some r) n_ (i_5, data_6, ())).bind fun (data_29, _) =>
  some (.inl ((IntKind.i64.wrap (i_5 + ((1) : Int))), data_29, ()))) else (
  some (.inr (data_6, ()))))) n_ ((IntKind.i64.wrap (a_2 + ((1) : Int))), data_1, ())).bind fun (data_30, _) =>
  some (data_30, ())
set_option maxHeartbeats 4000000 in
theorem le_slices_insertionSortCmpFunc_int_rcm (n_ : Nat) (a : ((List Int) × Int × Int × ((Option ((List (List Int)) × Unit)) × Unit) × Unit)) : Le (e_slices_insertionSortCmpFunc_int_rcm n_ a) (d_slices_insertionSortCmpFunc_int_rcm a) := by
  unfold e_slices_insertionSortCmpFunc_int_rcm d_slices_insertionSortCmpFunc_int_rcm
  repeat' (first | with_reducible exact Le.refl _ | with_reducible exact le_rcm_grow_1q_q0 _ _ | (with_reducible refine Le.bind ?_ (fun y => ?_)) | (with_reducible refine Le.bif ?_ ?_) | (with_reducible refine Le.loop (fun s => ?_) _ _) | (with_reducible refine Le.atO (fun e => ?_)) | split)
noncomputable def e_slices_siftDownCmpFunc_int_rcm (n_ : Nat) : ((List Int) × Int × Int × Int × ((Option ((List (List Int)) × Unit)) × Unit) × Unit) → Option ((List Int) × Unit) := fun (data_1, lo_2, hi_3, first_4, cmp_5, _) =>
  (loopN (σ := (Int × (List Int) × Unit)) (ρ := (((List Int) × Unit) ⊕ ((List Int) × Unit))) (fun (root_6, data_7, _) =>
  (bif (decide ((IntKind.i64.wrap ((IntKind.i64.wrap (((2) : Int) * root_6)) + ((1) : Int))) ≥ hi_3)) then (
  some (.inr (.inl (data_7, ())))) else (
  Option.bind (α := (Int × (List Int) × Unit)) (
  Option.bind (α := (Bool × (List Int) × Unit)) (
  (bif ((decide ((IntKind.i64.wrap ((IntKind.i64.wrap ((IntKind.i64.wrap (((2) : Int) * root_6)) + ((1) : Int))) + ((1) : Int))) < hi_3)) == true) then ((idxN (data_7).length (IntKind.i64.wrap (first_4 + (IntKind.i64.wrap ((IntKind.i64.wrap (((2) : Int) * root_6)) + ((1) : Int)))))).bind fun k8 =>
  ((atO data_7 k8 fun e9 => some e9)).bind fun y10 =>
  (idxN (data_7).length (IntKind.i64.wrap ((IntKind.i64.wrap (first_4 + (IntKind.i64.wrap ((IntKind.i64.wrap (((2) : Int) * root_6)) + ((1) : Int))))) + ((1) : Int)))).bind fun k11 =>
  ((atO data_7 k11 fun e12 => some e12)).bind fun y13 =>
  (e_rcm_grow_1q_q0 n_ (y10, y13, cmp_5.1, ())).bind fun (r14, _) =>
  some ((decide (r14 < ((0) : Int))), data_7, ())) else (some (false, data_7, ())))) fun (s_15, data_16, _) =>
  (bif s_15 then (
  some ((IntKind.i64.wrap ((IntKind.i64.wrap ((IntKind.i64.wrap (((2) : Int) * root_6)) + ((1) : Int))) + ((1) : Int))), data_16, ())) else (
  some ((IntKind.i64.wrap ((IntKind.i64.wrap (((2) : Int) * root_6)) + ((1) : Int))), data_16, ())))) fun (child_17, data_18, _) =>
  (idxN (data_18).length (IntKind.i64.wrap (first_4 + root_6))).bind fun k19 =>
  ((atO data_18 k19 fun e20 => some e20)).bind fun y21 =>
  (idxN (data_18).length (IntKind.i64.wrap (first_4 + child_17))).bind fun k22 =>
  ((atO data_18 k22 fun e23 => some e23)).bind fun y24 =>
  (e_rcm_grow_1q_q0 n_ (y21, y24, cmp_5.1, ())).bind fun (r25, _) =>
  (bif (!(decide (r25 < ((0) : Int)))) then (
  some (.inr (.inr (data_18, ())))) else (
  (idxN (data_18).length (IntKind.i64.wrap (first_4 + child_17))).bind fun k26 =>
  ((atO data_18 k26 fun e27 => some e27)).bind fun y28 =>
  (idxN (data_18).length (IntKind.i64.wrap (first_4 + root_6))).bind fun k29 =>
  ((atO data_18 k29 fun e30 => some e30)).bind fun y31 =>
  (idxN (data_18).length (IntKind.i64.wrap (first_4 + root_6))).bind fun k32 =>
  ((atO data_18 k32 fun _ => some ((data_18).set k32 y28))).bind fun z34 =>
  (idxN (z34).length (IntKind.i64.wrap (first_4 + child_17))).bind fun k35 =>
  ((atO z34 k35 fun _ => some ((z34).set k35 y31))).bind fun z37 =>
  some (.inl (child_17, z37, ()))))))) n_ (lo_2, data_1, ())).bind fun q => match q with
  | .inl (data_38, _) => (
  some (data_38, ()))
  | .inr r => some r
set_option maxHeartbeats 4000000 in
theorem le_slices_siftDownCmpFunc_int_rcm (n_ : Nat) (a : ((List Int) × Int × Int × Int × ((Option ((List (List Int)) × Unit)) × Unit) × Unit)) : Le (e_slices_siftDownCmpFunc_int_rcm n_ a) (d_slices_siftDownCmpFunc_int_rcm a) := by
  unfold e_slices_siftDownCmpFunc_int_rcm d_slices_siftDownCmpFunc_int_rcm
  repeat' (first | with_reducible exact Le.refl _ | with_reducible exact le_rcm_grow_1q_q0 _ _ | (with_reducible refine Le.bind ?_ (fun y => ?_)) | (with_reducible refine Le.bif ?_ ?_) | (with_reducible refine Le.loop (fun s => ?_) _ _) | (with_reducible refine Le.atO (fun e => ?_)) | split)
noncomputable def e_slices_heapSortCmpFunc_int_rcm (n_ : Nat) : ((List Int) × Int × Int × ((Option ((List (List Int)) × Unit)) × Unit) × Unit) → Option ((List Int) × Unit) := fun (data_1, a_2, b_3, cmp_4, _) =>
  (quoO IntKind.i64 (IntKind.i64.wrap ((IntKind.i64.wrap (b_3 - a_2)) - ((1) : Int))) ((2) : Int)).bind fun y5 =>
  (loopN (σ := (Int × (List Int) × Unit)) (ρ := ((List Int) × Unit)) (fun (i_6, data_7, _) =>
  (bif (decide (i_6 ≥ ((0) : Int))) then (
  (e_slices_siftDownCmpFunc_int_rcm n_ (data_7, i_6, (IntKind.i64.wrap (b_3 - a_2)), a_2, (cmp_4.1, ()), ())).bind fun (m8, _) =>
  some (.inl ((IntKind.i64.wrap (i_6 - ((1) : Int))), m8, ()))) else (
  some (.inr (data_7, ()))))) n_ (y5, data_1, ())).bind fun (data_9, _) =>
  (loopN (σ := (Int × (List Int) × Unit)) (ρ := ((List Int) × Unit)) (fun (i_10, data_11, _) =>
  (bif (decide (i_10 ≥ ((0) : Int))) then (
  (idxN (data_11).length (IntKind.i64.wrap (a_2 + i_10))).bind fun k12 =>
  ((atO data_11 k12 fun e13 => some e13)).bind fun y14 =>
  (idxN (data_11).length a_2).bind fun k15 =>
  ((atO data_11 k15 fun e16 => some e16)).bind fun y17 =>
  (idxN (data_11).length a_2).bind fun k18 =>
  ((atO data_11 k18 fun _ => some ((data_11).set k18 y14))).bind fun z20 =>
  (idxN (z20).length (IntKind.i64.wrap (a_2 + i_10))).bind fun k21 =>
  ((atO z20 k21 fun _ => some ((z20).set k21 y17))).bind fun z23 =>
  (e_slices_siftDownCmpFunc_int_rcm n_ (z23, ((0) : Int), i_10, a_2, (cmp_4.1, ()), ())).bind fun (m24, _) =>
  some (.inl ((IntKind.i64.wrap (i_10 - ((1) : Int))), m24, ()))) else (
  some (.inr (data_11, ()))))) n_ ((IntKind.i64.wrap ((IntKind.i64.wrap (b_3 - a_2)) - ((1) : Int))), data_9, ())).bind fun (data_25, _) =>
  some (data_25, ())
set_option maxHeartbeats 4000000 in
theorem le_slices_heapSortCmpFunc_int_rcm (n_ : Nat) (a : ((List Int) × Int × Int × ((Option ((List (List Int)) × Unit)) × Unit) × Unit)) : Le (e_slices_heapSortCmpFunc_int_rcm n_ a) (d_slices_heapSortCmpFunc_int_rcm a) := by
  unfold e_slices_heapSortCmpFunc_int_rcm d_slices_heapSortCmpFunc_int_rcm
  repeat' (first | with_reducible exact Le.refl _ | with_reducible exact le_slices_siftDownCmpFunc_int_rcm _ _ | (with_reducible refine Le.bind ?_ (fun y => ?_)) | (with_reducible refine Le.bif ?_ ?_) | (with_reducible refine Le.loop (fun s => ?_) _ _) | (with_reducible refine Le.atO (fun e => ?_)) | split)
noncomputable def e_slices_breakPatternsCmpFunc_int_rcm (n_ : Nat) : ((List Int) × Int × Int × ((Option ((List (List Int)) × Unit)) × Unit) × Unit) → Option ((List Int) × Unit) := fun (data_1, a_2, b_3, _, _) =>
  (bif (decide ((IntKind.i64.wrap (b_3 - a_2)) ≥ ((8) : Int))) then (
  (e_slices_nextPowerOfTwo n_ ((IntKind.i64.wrap (b_3 - a_2)), ())).bind fun (r5, _) =>
  (quoO IntKind.i64 (IntKind.i64.wrap (b_3 - a_2)) ((4) : Int)).bind fun y6 =>
  (loopN (σ := (Int × (List Int) × Int × Unit)) (ρ := ((List Int) × Unit)) (fun (idx_7, data_8, random_9, _) =>
  (quoO IntKind.i64 (IntKind.i64.wrap (b_3 - a_2)) ((4) : Int)).bind fun y10 =>
  (bif (decide (idx_7 ≤ (IntKind.i64.wrap ((IntKind.i64.wrap (a_2 + (IntKind.i64.wrap (y10 * ((2) : Int))))) + ((1) : Int))))) then (
  Option.bind (α := ((List Int) × Int × Unit)) (
  (e_slices_xorshift_Next n_ (random_9, ())).bind fun (m11, r12, _) =>
  Option.bind (α := (Int × (List Int) × Int × Unit)) (
  (bif (decide ((IntKind.i64.wrap (andI IntKind.u64 r12 (IntKind.u64.wrap (r5 - ((1) : Int))))) ≥ (IntKind.i64.wrap (b_3 - a_2)))) then (
  some ((IntKind.i64.wrap ((IntKind.i64.wrap (andI IntKind.u64 r12 (IntKind.u64.wrap (r5 - ((1) : Int))))) - (IntKind.i64.wrap (b_3 - a_2)))), data_8, m11, ())) else (
  some ((IntKind.i64.wrap (andI IntKind.u64 r12 (IntKind.u64.wrap (r5 - ((1) : Int))))), data_8, m11, ())))) fun (other_13, data_14, random_15, _) =>
  (idxN (data_14).length (IntKind.i64.wrap (a_2 + other_13))).bind fun k16 =>
  ((atO data_14 k16 fun e17 => some e17)).bind fun y18 =>
  (idxN (data_14).length idx_7).bind fun k19 =>
  ((atO data_14 k19 fun e20 => some e20)).bind fun y21 =>
  (idxN (data_14).length idx_7).bind fun k22 =>
  ((atO data_14 k22 fun _ => some ((data_14).set k22 y18))).bind fun z24 =>
  (idxN (z24).length (IntKind.i64.wrap (a_2 + other_13))).bind fun k25 =>
  ((atO z24 k25 fun _ => some ((z24).set k25 y21))).bind fun z27 =>
  some (z27, random_15, ())) fun (data_28, random_29, _) =>
  some (.inl ((IntKind.i64.wrap (idx_7 + ((1) : Int))), data_28, random_29, ()))) else (
  some (.inr (data_8, ()))))) n_ ((IntKind.i64.wrap ((IntKind.i64.wrap (a_2 + (IntKind.i64.wrap (y6 * ((2) : Int))))) - ((1) : Int))), data_1, (IntKind.u64.wrap (IntKind.i64.wrap (b_3 - a_2))), ())).bind fun (data_30, _) =>
  some (data_30, ())) else (
  some (data_1, ())))
set_option maxHeartbeats 4000000 in
theorem le_slices_breakPatternsCmpFunc_int_rcm (n_ : Nat) (a : ((List Int) × Int × Int × ((Option ((List (List Int)) × Unit)) × Unit) × Unit)) : Le (e_slices_breakPatternsCmpFunc_int_rcm n_ a) (d_slices_breakPatternsCmpFunc_int_rcm a) := by
  unfold e_slices_breakPatternsCmpFunc_int_rcm d_slices_breakPatternsCmpFunc_int_rcm
  repeat' (first | with_reducible exact Le.refl _ | with_reducible exact le_slices_nextPowerOfTwo _ _ | with_reducible exact le_slices_xorshift_Next _ _ | (with_reducible refine Le.bind ?_ (fun y => ?_)) | (with_reducible refine Le.bif ?_ ?_) | (with_reducible refine Le.loop (fun s => ?_) _ _) | (with_reducible refine Le.atO (fun e => ?_)) | split)
noncomputable def e_slices_order2CmpFunc_int_rcm (n_ : Nat) : ((List Int) × Int × Int × Int × ((Option ((List (List Int)) × Unit)) × Unit) × Unit) → Option (Int × Int × Int × Unit) := fun (data_1, a_2, b_3, swaps_4, cmp_5, _) =>
  (getI data_1 b_3).bind fun y6 =>
  (getI data_1 a_2).bind fun y7 =>
  (e_rcm_grow_1q_q0 n_ (y6, y7, cmp_5.1, ())).bind fun (r8, _) =>
  (bif (decide (r8 < ((0) : Int))) then (
  some ((IntKind.i64.wrap (swaps_4 + ((1) : Int))), b_3, a_2, ())) else (
  some (swaps_4, a_2, b_3, ())))
set_option maxHeartbeats 4000000 in
theorem le_slices_order2CmpFunc_int_rcm (n_ : Nat) (a : ((List Int) × Int × Int × Int × ((Option ((List (List Int)) × Unit)) × Unit) × Unit)) : Le (e_slices_order2CmpFunc_int_rcm n_ a) (d_slices_order2CmpFunc_int_rcm a) := by
  unfold e_slices_order2CmpFunc_int_rcm d_slices_order2CmpFunc_int_rcm
  repeat' (first | with_reducible exact Le.refl _ | with_reducible exact le_rcm_grow_1q_q0 _ _ | (with_reducible refine Le.bind ?_ (fun y => ?_)) | (with_reducible refine Le.bif ?_ ?_) | (with_reducible refine Le.loop (fun s => ?_) _ _) | (with_reducible refine Le.atO (fun e => ?_)) | split)
noncomputable def e_slices_medianCmpFunc_int_rcm (n_ : Nat) : ((List Int) × Int × Int × Int × Int × ((Option ((List (List Int)) × Unit)) × Unit) × Unit) → Option (Int × Int × Unit) := fun (data_1, a_2, b_3, c_4, swaps_5, cmp_6, _) =>
  (e_slices_order2CmpFunc_int_rcm n_ (data_1, a_2, b_3, swaps_5, (cmp_6.1, ()), ())).bind fun (m7, r8, r9, _) =>
  (e_slices_order2CmpFunc_int_rcm n_ (data_1, r9, c_4, m7, (cmp_6.1, ()), ())).bind fun (m10, r11, _, _) =>
  (e_slices_order2CmpFunc_int_rcm n_ (data_1, r8, r11, m10, (cmp_6.1, ()), ())).bind fun (m13, _, r15, _) =>
  some (m13, r15, ())
set_option maxHeartbeats 4000000 in
theorem le_slices_medianCmpFunc_int_rcm (n_ : Nat) (a : ((List Int) × Int × Int × Int × Int × ((Option ((List (List Int)) × Unit)) × Unit) × Unit)) : Le (e_slices_medianCmpFunc_int_rcm n_ a) (d_slices_medianCmpFunc_int_rcm a) := by
  unfold e_slices_medianCmpFunc_int_rcm d_slices_medianCmpFunc_int_rcm
  repeat' (first | with_reducible exact Le.refl _ | with_reducible exact le_slices_order2CmpFunc_int_rcm _ _ | (with_reducible refine Le.bind ?_ (fun y => ?_)) | (with_reducible refine Le.bif ?_ ?_) | (with_reducible refine Le.loop (fun s => ?_) _ _) | (with_reducible refine Le.atO (fun e => ?_)) | split)
noncomputable def e_slices_medianAdjacentCmpFunc_int_rcm (n_ : Nat) : ((List Int) × Int × Int × ((Option ((List (List Int)) × Unit)) × Unit) × Unit) → Option (Int × Int × Unit) := fun (data_1, a_2, swaps_3, cmp_4, _) =>
  (e_slices_medianCmpFunc_int_rcm n_ (data_1, (IntKind.i64.wrap (a_2 - ((1) : Int))), a_2, (IntKind.i64.wrap (a_2 + ((1) : Int))), swaps_3, (cmp_4.1, ()), ())).bind fun (m5, r6, _) =>
  some (m5, r6, ())
set_option maxHeartbeats 4000000 in
theorem le_slices_medianAdjacentCmpFunc_int_rcm (n_ : Nat) (a : ((List Int) × Int × Int × ((Option ((List (List Int)) × Unit)) × Unit) × Unit)) : Le (e_slices_medianAdjacentCmpFunc_int_rcm n_ a) (d_slices_medianAdjacentCmpFunc_int_rcm a) := by
  unfold e_slices_medianAdjacentCmpFunc_int_rcm d_slices_medianAdjacentCmpFunc_int_rcm
  repeat' (first | with_reducible exact Le.refl _ | with_reducible exact le_slices_medianCmpFunc_int_rcm _ _ | (with_reducible refine Le.bind ?_ (fun y => ?_)) | (with_reducible refine Le.bif ?_ ?_) | (with_reducible refine Le.loop (fun s => ?_) _ _) | (with_reducible refine Le.atO (fun e => ?_)) | split)
noncomputable def e_slices_choosePivotCmpFunc_int_rcm (n_ : Nat) : ((List Int) × Int × Int × ((Option ((List (List Int)) × Unit)) × Unit) × Unit) → Option (Int × Int × Unit) := fun (data_1, a_2, b_3, cmp_4, _) =>
  (quoO IntKind.i64 (IntKind.i64.wrap (b_3 - a_2)) ((4) : Int)).bind fun y5 =>
  (quoO IntKind.i64 (IntKind.i64.wrap (b_3 - a_2)) ((4) : Int)).bind fun y6 =>
  (quoO IntKind.i64 (IntKind.i64.wrap (b_3 - a_2)) ((4) : Int)).bind fun y7 =>
  Option.bind (α := (Int × Int × Unit)) (
  (bif (decide ((IntKind.i64.wrap (b_3 - a_2)) ≥ ((8) : Int))) then (
  Option.bind (α := (Int × Int × Int × Int × Unit)) (
  (bif (decide ((IntKind.i64.wrap (b_3 - a_2)) ≥ ((50) : Int))) then (
  (e_slices_medianAdjacentCmpFunc_int_rcm n_ (data_1, (IntKind.i64.wrap (a_2 + (IntKind.i64.wrap (y5 * ((1) : Int))))), (0 : Int), (cmp_4.1, ()), ())).bind fun (m8, r9, _) =>
  (e_slices_medianAdjacentCmpFunc_int_rcm n_ (data_1, (IntKind.i64.wrap (a_2 + (IntKind.i64.wrap (y6 * ((2) : Int))))), m8, (cmp_4.1, ()), ())).bind fun (m10, r11, _) =>
  (e_slices_medianAdjacentCmpFunc_int_rcm n_ (data_1, (IntKind.i64.wrap (a_2 + (IntKind.i64.wrap (y7 * ((3) : Int))))), m10, (cmp_4.1, ()), ())).bind fun (m12, r13, _) =>
  some (r9, r11, r13, m12, ())) else (
  some ((IntKind.i64.wrap (a_2 + (IntKind.i64.wrap (y5 * ((1) : Int))))), (IntKind.i64.wrap (a_2 + (IntKind.i64.wrap (y6 * ((2) : Int))))), (IntKind.i64.wrap (a_2 + (IntKind.i64.wrap (y7 * ((3) : Int))))), (0 : Int), ())))) fun (i_14, j_15, k_16, swaps_17, _) =>
  (e_slices_medianCmpFunc_int_rcm n_ (data_1, i_14, j_15, k_16, swaps_17, (cmp_4.1, ()), ())).bind fun (m18, r19, _) =>
  some (r19, m18, ())) else (
  some ((IntKind.i64.wrap (a_2 + (IntKind.i64.wrap (y6 * ((2) : Int))))), (0 : Int), ())))) fun (j_20, swaps_21, _) =>
  (bif (swaps_21 == ((0) : Int)) then (
  some (j_20, ((1) : Int), ())) else (
  (bif (swaps_21 == ((12) : Int)) then (
  some (j_20, ((2) : Int), ())) else (
  some (j_20, ((0) : Int), ())))))
set_option maxHeartbeats 4000000 in
theorem le_slices_choosePivotCmpFunc_int_rcm (n_ : Nat) (a : ((List Int) × Int × Int × ((Option ((List (List Int)) × Unit)) × Unit) × Unit)) : Le (e_slices_choosePivotCmpFunc_int_rcm n_ a) (d_slices_choosePivotCmpFunc_int_rcm a) := by
  unfold e_slices_choosePivotCmpFunc_int_rcm d_slices_choosePivotCmpFunc_int_rcm
  repeat' (first | with_reducible exact Le.refl _ | with_reducible exact le_slices_medianAdjacentCmpFunc_int_rcm _ _ | with_reducible exact le_slices_medianCmpFunc_int_rcm _ _ | (with_reducible refine Le.bind ?_ (fun y => ?_)) | (with_reducible refine Le.bif ?_ ?_) | (with_reducible refine Le.loop (fun s => ?_) _ _) | (with_reducible refine Le.atO (fun e => ?_)) | split)
noncomputable def e_slices_reverseRangeCmpFunc_int_rcm (n_ : Nat) : ((List Int) × Int × Int × ((Option ((List (List Int)) × Unit)) × Unit) × Unit) → Option ((List Int) × Unit) := fun (data_1, a_2, b_3, _, _) =>
  (loopN (σ := (Int × Int × (List Int) × Unit)) (ρ := ((List Int) × Unit)) (fun (i_5, j_6, data_7, _) =>
  (bif (decide (i_5 < j_6)) then (
  (idxN (data_7).length j_6).bind fun k8 =>
  ((atO data_7 k8 fun e9 => some e9)).bind fun y10 =>
  (idxN (data_7).length i_5).bind fun k11 =>
  ((atO data_7 k11 fun e12 => some e12)).bind fun y13 =>
  (idxN (data_7).length i_5).bind fun k14 =>
  ((atO data_7 k14 fun _ => some ((data_7).set k14 y10))).bind fun z16 =>
  (idxN (z16).length j_6).bind fun k17 =>
  ((atO z16 k17 fun _ => some ((z16).set k17 y13))).bind fun z19 =>
  some (.inl ((IntKind.i64.wrap (i_5 + ((1) : Int))), (IntKind.i64.wrap (j_6 - ((1) : Int))), z19, ()))) else (
  some (.inr (data_7, ()))))) n_ (a_2, (IntKind.i64.wrap (b_3 - ((1) : Int))), data_1, ())).bind fun (data_20, _) =>
  some (data_20, ())
set_option maxHeartbeats 4000000 in
theorem le_slices_reverseRangeCmpFunc_int_rcm (n_ : Nat) (a : ((List Int) × Int × Int × ((Option ((List (List Int)) × Unit)) × Unit) × Unit)) : Le (e_slices_reverseRangeCmpFunc_int_rcm n_ a) (d_slices_reverseRangeCmpFunc_int_rcm a) := by
  unfold e_slices_reverseRangeCmpFunc_int_rcm d_slices_reverseRangeCmpFunc_int_rcm
  repeat' (first | with_reducible exact Le.refl _  | (with_reducible refine Le.bind ?_ (fun y => ?_)) | (with_reducible refine Le.bif ?_ ?_) | (with_reducible refine Le.loop (fun s => ?_) _ _) | (with_reducible refine Le.atO (fun e => ?_)) | split)
noncomputable def e_slices_partialInsertionSortCmpFunc_int_rcm (n_ : Nat) : ((List Int) × Int × Int × ((Option ((List (List Int)) × Unit)) × Unit) × Unit) → Option ((List Int) × Bool × Unit) := fun (data_1, a_2, b_3, cmp_4, _) =>
  (loopN (σ := (Int × Int × (List Int) × Unit)) (ρ := (((List Int) × Unit) ⊕ ((List Int) × Bool × Unit))) (fun (i_5, j_6, data_7, _) =>
  (bif (decide (j_6 < ((5) : Int))) then (
  Option.bind (α := (Int × (List Int) × Unit) ⊕ ((Int × Int × (List Int) × Unit) ⊕ (((List Int) × Unit) ⊕ ((List Int) × Bool × Unit)))) (
  (loopN (σ := (Int × (List Int) × Unit)) (ρ := (Int × (List Int) × Unit)) (fun (i_8, data_9, _) =>
  Option.bind (α := ((List Int) × Unit) ⊕ ((Int × (List Int) × Unit) ⊕ (Int × (List Int) × Unit))) (
  (bif ((decide (i_8 < b_3)) == true) then ((idxN (data_9).length i_8).bind fun k10 =>
  ((atO data_9 k10 fun e11 => some e11)).bind fun y12 =>
  (idxN (data_9).length (IntKind.i64.wrap (i_8 - ((1) : Int)))).bind fun k13 =>
  ((atO data_9 k13 fun e14 => some e14)).bind fun y15 =>
  (e_rcm_grow_1q_q0 n_ (y12, y15, cmp_4.1, ())).bind fun (r16, _) =>
  (bif (!(decide (r16 < ((0) : Int)))) then (
  some (.inl (data_9, ()))) else (
  some (.inr (.inr (i_8, data_9, ())))))) else (some (.inr (.inr (i_8, data_9, ())))))) fun q => match q with
  | .inl (data_17, _) => (
  some (.inl ((IntKind.i64.wrap (i_8 + ((1) : Int))), data_17, ())))
  | .inr r => some r) n_ (i_5, data_7, ())).bind fun (i_18, data_19, _) =>
  (bif (i_18 == b_3) then (
  some (.inr (.inr (.inr (data_19, true, ()))))) else (
  (bif (decide ((IntKind.i64.wrap (b_3 - a_2)) < ((50) : Int))) then (
  some (.inr (.inr (.inr (data_19, false, ()))))) else (
  (idxN (data_19).length (IntKind.i64.wrap (i_18 - ((1) : Int)))).bind fun k20 =>
  ((atO data_19 k20 fun e21 => some e21)).bind fun y22 =>
  (idxN (data_19).length i_18).bind fun k23 =>
  ((atO data_19 k23 fun e24 => some e24)).bind fun y25 =>
  (idxN (data_19).length i_18).bind fun k26 =>
  ((atO data_19 k26 fun _ => some ((data_19).set k26 y22))).bind fun z28 =>
  (idxN (z28).length (IntKind.i64.wrap (i_18 - ((1) : Int)))).bind fun k29 =>
  ((atO z28 k29 fun _ => some ((z28).set k29 y25))).bind fun z31 =>
  Option.bind (α := ((List Int) × Unit)) (
  (bif (decide ((IntKind.i64.wrap (i_18 - a_2)) ≥ ((2) : Int))) then (
  (loopN (σ := (Int × (List Int) × Unit)) (ρ := ((List Int) × Unit)) (fun (j_32, data_33, _) =>
  (bif (decide (j_32 ≥ ((1) : Int))) then (
  (idxN (data_33).length j_32).bind fun k34 =>
  ((atO data_33 k34 fun e35 => some e35)).bind fun y36 =>
  (idxN (data_33).length (IntKind.i64.wrap (j_32 - ((1) : Int)))).bind fun k37 =>
  ((atO data_33 k37 fun e38 => some e38)).bind fun y39 =>
  (e_rcm_grow_1q_q0 n_ (y36, y39, cmp_4.1, ())).bind fun (r40, _) =>
  (bif (!(decide (r40 < ((0) : Int)))) then (
  some (.inr (data_33, ()))) else (
  (idxN (data_33).length (IntKind.i64.wrap (j_32 - ((1) : Int)))).bind fun k41 =>
  ((atO data_33 k41 fun e42 => some e42)).bind fun y43 =>
  (idxN (data_33).length j_32).bind fun k44 =>
  ((atO data_33 k44 fun e45 => some e45)).bind fun y46 =>
  (idxN (data_33).length j_32).bind fun k47 =>
  ((atO data_33 k47 fun _ => some ((data_33).set k47 y43))).bind fun z49 =>
  (idxN (z49).length (IntKind.i64.wrap (j_32 - ((1) : Int)))).bind fun k50 =>
  ((atO z49 k50 fun _ => some ((z49).set k50 y46))).bind fun z52 =>
  some (.inl ((IntKind.i64.wrap (j_32 - ((1) : Int))), z52, ()))))) else (
  some (.inr (data_33, ()))))) n_ ((IntKind.i64.wrap (i_18 - ((1) : Int))), z31, ())).bind fun (data_53, _) =>
  some (data_53, ())) else (
  some (z31, ())))) fun (data_54, _) =>
  (bif (decide ((IntKind.i64.wrap (b_3 - i_18)) ≥ ((2) : Int))) then (
  (loopN (σ := (Int × (List Int) × Unit)) (ρ := ((List Int) × Unit)) (fun (j_55, data_56, _) =>
  (bif (decide (j_55 < b_3)) then (
  (idxN (data_56).length j_55).bind fun k57 =>
  ((atO data_56 k57 fun e58 => some e58)).bind fun y59 =>
  (idxN (data_56).length (IntKind.i64.wrap (j_55 - ((1) : Int)))).bind fun k60 =>
  ((atO data_56 k60 fun e61 => some e61)).bind fun y62 =>
  (e_rcm_grow_1q_q0 n_ (y59, y62, cmp_4.1, ())).bind fun (r63, _) =>
  (bif (!(decide (r63 < ((0) : Int)))) then (
  some (.inr (data_56, ()))) else (
  (idxN (data_56).length (IntKind.i64.wrap (j_55 - ((1) : Int)))).bind fun k64 =>
  ((atO data_56 k64 fun e65 => some e65)).bind fun y66 =>
  (idxN (data_56).length j_55).bind fun k67 =>
  ((atO data_56 k67 fun e68 => some e68)).bind fun y69 =>
  (idxN (data_56).length j_55).bind fun k70 =>
  ((atO data_56 k70 fun _ => some ((data_56).set k70 y66))).bind fun z72 =>
  (idxN (z72).length (IntKind.i64.wrap (j_55 - ((1) : Int)))).bind fun k73 =>
  ((atO z72 k73 fun _ => some ((z72).set k73 y69))).bind fun z75 =>
  some (.inl ((IntKind.i64.wrap (j_55 + ((1) : Int))), z75, ()))))) else (
  some (.inr (data_56, ()))))) n_ ((IntKind.i64.wrap (i_18 + ((1) : Int))), data_54, ())).bind fun (data_76, _) =>
  some (.inl (i_18, data_76, ()))) else (
  some (.inl (i_18, data_54, ()))))))))) fun q => match q with
  | .inl (i_77, data_78, _) => (
  some (.inl (i_77, (IntKind.i64.wrap (j_6 + ((1) : Int))), data_78, ())))
  | .inr r => some r) else (
  some (.inr (.inl (data_7, ())))))) n_ ((IntKind.i64.wrap (a_2 + ((1) : Int))), ((0) : Int), data_1, ())).bind fun q => match q with
  | .inl (data_79, _) => (
  some (data_79, false, ()))
  | .inr r => some r
set_option maxHeartbeats 4000000 in
theorem le_slices_partialInsertionSortCmpFunc_int_rcm (n_ : Nat) (a : ((List Int) × Int × Int × ((Option ((List (List Int)) × Unit)) × Unit) × Unit)) : Le (e_slices_partialInsertionSortCmpFunc_int_rcm n_ a) (d_slices_partialInsertionSortCmpFunc_int_rcm a) := by
  unfold e_slices_partialInsertionSortCmpFunc_int_rcm d_slices_partialInsertionSortCmpFunc_int_rcm
  repeat' (first | with_reducible exact Le.refl _ | with_reducible exact le_rcm_grow_1q_q0 _ _ | (with_reducible refine Le.bind ?_ (fun y => ?_)) | (with_reducible refine Le.bif ?_ ?_) | (with_reducible refine Le.loop (fun s => ?_) _ _) | (with_reducible refine Le.atO (fun e => ?_)) | split)
noncomputable def e_slices_partitionEqualCmpFunc_int_rcm (n_ : Nat) : ((List Int) × Int × Int × Int × ((Option ((List (List Int)) × Unit)) × Unit) × Unit) → Option ((List Int) × Int × Unit) := fun (data_1, a_2, b_3, pivot_4, cmp_5, _) =>
  (idxN (data_1).length pivot_4).bind fun k6 =>
  ((atO data_1 k6 fun e7 => some e7)).bind fun y8 =>
  (idxN (data_1).length a_2).bind fun k9 =>
  ((atO data_1 k9 fun e10 => some e10)).bind fun y11 =>
  (idxN (data_1).length a_2).bind fun k12 =>
  ((atO data_1 k12 fun _ => some ((data_1).set k12 y8))).bind fun z14 =>
  (idxN (z14).length pivot_4).bind fun k15 =>
  ((atO z14 k15 fun _ => some ((z14).set k15 y11))).bind fun z17 =>
  (loopN (σ := (Int × Int × (List Int) × Unit)) (ρ := (Int × (List Int) × Unit)) (fun (i_18, j_19, data_20, _) =>
  (loopN (σ := (Int × (List Int) × Unit)) (ρ := (Int × (List Int) × Unit)) (fun (i_21, data_22, _) =>
  Option.bind (α := ((List Int) × Unit) ⊕ ((Int × (List Int) × Unit) ⊕ (Int × (List Int) × Unit))) (
  (bif ((decide (i_21 ≤ j_19)) == true) then ((idxN (data_22).length a_2).bind fun k23 =>
  ((atO data_22 k23 fun e24 => some e24)).bind fun y25 =>
  (idxN (data_22).length i_21).bind fun k26 =>
  ((atO data_22 k26 fun e27 => some e27)).bind fun y28 =>
  (e_rcm_grow_1q_q0 n_ (y25, y28, cmp_5.1, ())).bind fun (r29, _) =>
  (bif (!(decide (r29 < ((0) : Int)))) then (
  some (.inl (data_22, ()))) else (
  some (.inr (.inr (i_21, data_22, ())))))) else (some (.inr (.inr (i_21, data_22, ())))))) fun q => match q with
  | .inl (data_30, _) => (
  some (.inl ((IntKind.i64.wrap (i_21 + ((1) : Int))), data_30, ())))
  | .inr r => some r) n_ (i_18, data_20, ())).bind fun (i_31, data_32, _) =>
  (loopN (σ := (Int × (List Int) × Unit)) (ρ := (Int × (List Int) × Unit)) (fun (j_33, data_34, _) =>
  Option.bind (α := ((List Int) × Unit) ⊕ ((Int × (List Int) × Unit) ⊕ (Int × (List Int) × Unit))) (
  (bif ((decide (i_31 ≤ j_33)) == true) then ((idxN (data_34).length a_2).bind fun k35 =>
  ((atO data_34 k35 fun e36 => some e36)).bind fun y37 =>
  (idxN (data_34).length j_33).bind fun k38 =>
  ((atO data_34 k38 fun e39 => some e39)).bind fun y40 =>
  (e_rcm_grow_1q_q0 n_ (y37, y40, cmp_5.1, ())).bind fun (r41, _) =>
  (bif (decide (r41 < ((0) : Int))) then (
  some (.inl (data_34, ()))) else (
  some (.inr (.inr (j_33, data_34, ())))))) else (some (.inr (.inr (j_33, data_34, ())))))) fun q => match q with
  | .inl (data_42, _) => (
  some (.inl ((IntKind.i64.wrap (j_33 - ((1) : Int))), data_42, ())))
  | .inr r => some r) n_ (j_19, data_32, ())).bind fun (j_43, data_44, _) =>
  (bif (decide (i_31 > j_43)) then (
  some (.inr (i_31, data_44, ()))) else (
  (idxN (data_44).length j_43).bind fun k45 =>
  ((atO data_44 k45 fun e46 => some e46)).bind fun y47 =>
  (idxN (data_44).length i_31).bind fun k48 =>
  ((atO data_44 k48 fun e49 => some e49)).bind fun y50 =>
  (idxN (data_44).length i_31).bind fun k51 =>
  ((atO data_44 k51 fun _ => some ((data_44).set k51 y47))).bind fun z53 =>
  (idxN (z53).length j_43).bind fun k54 =>
  ((atO z53 k54 fun _ => some ((z53).set k54 y50))).bind fun z56 =>
  some (.inl ((IntKind.i64.wrap (i_31 + ((1) : Int))), (IntKind.i64.wrap (j_43 - ((1) : Int))), z56, ()))))) n_ ((IntKind.i64.wrap (a_2 + ((1) : Int))), (IntKind.i64.wrap (b_3 - ((1) : Int))), z17, ())).bind fun (i_57, data_58, _) =>
  some (data_58, i_57, ())
set_option maxHeartbeats 4000000 in
theorem le_slices_partitionEqualCmpFunc_int_rcm (n_ : Nat) (a : ((List Int) × Int × Int × Int × ((Option ((List (List Int)) × Unit)) × Unit) × Unit)) : Le (e_slices_partitionEqualCmpFunc_int_rcm n_ a) (d_slices_partitionEqualCmpFunc_int_rcm a) := by
  unfold e_slices_partitionEqualCmpFunc_int_rcm d_slices_partitionEqualCmpFunc_int_rcm
  repeat' (first | with_reducible exact Le.refl _ | with_reducible exact le_rcm_grow_1q_q0 _ _ | (with_reducible refine Le.bind ?_ (fun y => ?_)) | (with_reducible refine Le.bif ?_ ?_) | (with_reducible refine Le.loop (fun s => ?_) _ _) | (with_reducible refine Le.atO (fun e => ?_)) | split)
noncomputable def e_slices_partitionCmpFunc_int_rcm (n_ : Nat) : ((List Int) × Int × Int × Int × ((Option ((List (List Int)) × Unit)) × Unit) × Unit) → Option ((List Int) × Int × Bool × Unit) := fun (data_1, a_2, b_3, pivot_4, cmp_5, _) =>
  (idxN (data_1).length pivot_4).bind fun k6 =>
  ((atO data_1 k6 fun e7 => some e7)).bind fun y8 =>
  (idxN (data_1).length a_2).bind fun k9 =>
  ((atO data_1 k9 fun e10 => some e10)).bind fun y11 =>
  (idxN (data_1).length a_2).bind fun k12 =>
  ((atO data_1 k12 fun _ => some ((data_1).set k12 y8))).bind fun z14 =>
  (idxN (z14).length pivot_4).bind fun k15 =>
  ((atO z14 k15 fun _ => some ((z14).set k15 y11))).bind fun z17 =>
  (loopN (σ := (Int × (List Int) × Unit)) (ρ := (Int × (List Int) × Unit)) (fun (i_18, data_19, _) =>
  Option.bind (α := ((List Int) × Unit) ⊕ ((Int × (List Int) × Unit) ⊕ (Int × (List Int) × Unit))) (
  (bif ((decide (i_18 ≤ (IntKind.i64.wrap (b_3 - ((1) : Int))))) == true) then ((idxN (data_19).length i_18).bind fun k20 =>
  ((atO data_19 k20 fun e21 => some e21)).bind fun y22 =>
  (idxN (data_19).length a_2).bind fun k23 =>
  ((atO data_19 k23 fun e24 => some e24)).bind fun y25 =>
  (e_rcm_grow_1q_q0 n_ (y22, y25, cmp_5.1, ())).bind fun (r26, _) =>
  (bif (decide (r26 < ((0) : Int))) then (
  some (.inl (data_19, ()))) else (
  some (.inr (.inr (i_18, data_19, ())))))) else (some (.inr (.inr (i_18, data_19, ())))))) fun q => match q with
  | .inl (data_27, _) => (
  some (.inl ((IntKind.i64.wrap (i_18 + ((1) : Int))), data_27, ())))
  | .inr r => some r) n_ ((IntKind.i64.wrap (a_2 + ((1) : Int))), z17, ())).bind fun (i_28, data_29, _) =>
  (loopN (σ := (Int × (List Int) × Unit)) (ρ := (Int × (List Int) × Unit)) (fun (j_30, data_31, _) =>
  Option.bind (α := ((List Int) × Unit) ⊕ ((Int × (List Int) × Unit) ⊕ (Int × (List Int) × Unit))) (
  (bif ((decide (i_28 ≤ j_30)) == true) then ((idxN (data_31).length j_30).bind fun k32 =>
  ((atO data_31 k32 fun e33 => some e33)).bind fun y34 =>
  (idxN (data_31).length a_2).bind fun k35 =>
  ((atO data_31 k35 fun e36 => some e36)).bind fun y37 =>
  (e_rcm_grow_1q_q0 n_ (y34, y37, cmp_5.1, ())).bind fun (r38, _) =>
  (bif (!(decide (r38 < ((0) : Int)))) then (
  some (.inl (data_31, ()))) else (
  some (.inr (.inr (j_30, data_31, ())))))) else (some (.inr (.inr (j_30, data_31, ())))))) fun q => match q with
  | .inl (data_39, _) => (
  some (.inl ((IntKind.i64.wrap (j_30 - ((1) : Int))), data_39, ())))
  | .inr r => some r) n_ ((IntKind.i64.wrap (b_3 - ((1) : Int))), data_29, ())).bind fun (j_40, data_41, _) =>
  (bif (decide (i_28 > j_40)) then (
  (idxN (data_41).length a_2).bind fun k42 =>
  ((atO data_41 k42 fun e43 => some e43)).bind fun y44 =>
  (idxN (data_41).length j_40).bind fun k45 =>
  ((atO data_41 k45 fun e46 => some e46)).bind fun y47 =>
  (idxN (data_41).length j_40).bind fun k48 =>
  ((atO data_41 k48 fun _ => some ((data_41).set k48 y44))).bind fun z50 =>
  (idxN (z50).length a_2).bind fun k51 =>
  ((atO z50 k51 fun _ => some ((z50).set k51 y47))).bind fun z53 =>
  some (z53, j_40, true, ())) else (
  (idxN (data_41).length j_40).bind fun k54 =>
  ((atO data_41 k54 fun e55 => some e55)).bind fun y56 =>
  (idxN (data_41).length i_28).bind fun k57 =>
  ((atO data_41 k57 fun e58 => some e58)).bind fun y59 =>
  (idxN (data_41).length i_28).bind fun k60 =>
  ((atO data_41 k60 fun _ => some ((data_41).set k60 y56))).bind fun z62 =>
  (idxN (z62).length j_40).bind fun k63 =>
  ((atO z62 k63 fun _ => some ((z62).set k63 y59))).bind fun z65 =>
  (loopN (σ := (Int × Int × (List Int) × Unit)) (ρ := (Int × (List Int) × Unit)) (fun (i_66, j_67, data_68, _) =>
  (loopN (σ := (Int × (List Int) × Unit)) (ρ := (Int × (List Int) × Unit)) (fun (i_69, data_70, _) =>
  Option.bind (α := ((List Int) × Unit) ⊕ ((Int × (List Int) × Unit) ⊕ (Int × (List Int) × Unit))) (
  (bif ((decide (i_69 ≤ j_67)) == true) then ((idxN (data_70).length i_69).bind fun k71 =>
  ((atO data_70 k71 fun e72 => some e72)).bind fun y73 =>
  (idxN (data_70).length a_2).bind fun k74 =>
  ((atO data_70 k74 fun e75 => some e75)).bind fun y76 =>
  (e_rcm_grow_1q_q0 n_ (y73, y76, cmp_5.1, ())).bind fun (r77, _) =>
  (bif (decide (r77 < ((0) : Int))) then (
  some (.inl (data_70, ()))) else (
  some (.inr (.inr (i_69, data_70, ())))))) else (some (.inr (.inr (i_69, data_70, ())))))) fun q => match q with
  | .inl (data_78, _) => (
  some (.inl ((IntKind.i64.wrap (i_69 + ((1) : Int))), data_78, ())))
  | .inr r => some r) n_ (i_66, data_68, ())).bind fun (i_79, data_80, _) =>
  (loopN (σ := (Int × (List Int) × Unit)) (ρ := (Int × (List Int) × Unit)) (fun (j_81, data_82, _) =>
  Option.bind (α := ((List Int) × Unit) ⊕ ((Int × (List Int) × Unit) ⊕ (Int × (List Int) × Unit))) (
  (bif ((decide (i_79 ≤ j_81)) == true) then ((idxN (data_82).length j_81).bind fun k83 =>
  ((atO data_82 k83 fun e84 => some e84)).bind fun y85 =>
  (idxN (data_82).length a_2).bind fun k86 =>
  ((atO data_82 k86 fun e87 => some e87)).bind fun y88 =>
  (e_rcm_grow_1q_q0 n_ (y85, y88, cmp_5.1, ())).bind fun (r89, _) =>
  (bif (!(decide (r89 < ((0) : Int)))) then (
  some (.inl (data_82, ()))) else (
  some (.inr (.inr (j_81, data_82, ())))))) else (some (.inr (.inr (j_81, data_82, ())))))) fun q => match q with
  | .inl (data_90, _) => (
  some (.inl ((IntKind.i64.wrap (j_81 - ((1) : Int))), data_90, ())))
  | .inr r => some r) n_ (j_67, data_80, ())).bind fun (j_91, data_92, _) =>
  (bif (decide (i_79 > j_91)) then (
  some (.inr (j_91, data_92, ()))) else (
  (idxN (data_92).length j_91).bind fun k93 =>
  ((atO data_92 k93 fun e94 => some e94)).bind fun y95 =>
  (idxN (data_92).length i_79).bind fun k96 =>
  ((atO data_92 k96 fun e97 => some e97)).bind fun y98 =>
  (idxN (data_92).length i_79).bind fun k99 =>
  ((atO data_92 k99 fun _ => some ((data_92).set k99 y95))).bind fun z101 =>
  (idxN (z101).length j_91).bind fun k102 =>
  ((atO z101 k102 fun _ => some ((z101).set k102 y98))).bind fun z104 =>
  some (.inl ((IntKind.i64.wrap (i_79 + ((1) : Int))), (IntKind.i64.wrap (j_91 - ((1) : Int))), z104, ()))))) n_ ((IntKind.i64.wrap (i_28 + ((1) : Int))), (IntKind.i64.wrap (j_40 - ((1) : Int))), z65, ())).bind fun (j_105, data_106, _) =>
  (idxN (data_106).length a_2).bind fun k107 =>
  ((atO data_106 k107 fun e108 => some e108)).bind fun y109 =>
  (idxN (data_106).length j_105).bind fun k110 =>
  ((atO data_106 k110 fun e111 => some e111)).bind fun y112 =>
  (idxN (data_106).length j_105).bind fun k113 =>
  ((atO data_106 k113 fun _ => some ((data_106).set k113 y109))).bind fun z115 =>
  (idxN (z115).length a_2).bind fun k116 =>
  ((atO z115 k116 fun _ => some ((z115).set k116 y112))).bind fun z118 =>
  some (z118, j_105, false, ())))
set_option maxHeartbeats 4000000 in
theorem le_slices_partitionCmpFunc_int_rcm (n_ : Nat) (a : ((List Int) × Int × Int × Int × ((Option ((List (List Int)) × Unit)) × Unit) × Unit)) : Le (e_slices_partitionCmpFunc_int_rcm n_ a) (d_slices_partitionCmpFunc_int_rcm a) := by
  unfold e_slices_partitionCmpFunc_int_rcm d_slices_partitionCmpFunc_int_rcm
  repeat' (first | with_reducible exact Le.refl _ | with_reducible exact le_rcm_grow_1q_q0 _ _ | (with_reducible refine Le.bind ?_ (fun y => ?_)) | (with_reducible refine Le.bif ?_ ?_) | (with_reducible refine Le.loop (fun s => ?_) _ _) | (with_reducible refine Le.atO (fun e => ?_)) | split)
noncomputable def e_slices_pdqsortCmpFunc_int_rcmq_s (n_ : Nat) (f_ : ((List Int) × Int × Int × Int × ((Option ((List (List Int)) × Unit)) × Unit) × Unit) → Option ((List Int) × Unit)) : ((List Int) × Int × Int × Int × ((Option ((List (List Int)) × Unit)) × Unit) × Unit) → Option ((List Int) × Unit) := fun (data_1, a_2, b_3, limit_4, cmp_5, _) =>
  (loopN (σ := (Int × Int × Int × Bool × Bool × (List Int) × Unit)) (ρ := ((List Int) × Unit)) (fun (a_6, b_7, limit_8, wasBalanced_9, wasPartitioned_10, data_11, _) =>
  (bif (decide ((IntKind.i64.wrap (b_7 - a_6)) ≤ ((12) : Int))) then (
  (e_slices_insertionSortCmpFunc_int_rcm n_ (data_11, a_6, b_7, (cmp_5.1, ()), ())).bind fun (m12, _) =>
  some (.inr (m12, ()))) else (
  (bif (limit_8 == ((0) : Int)) then (
  (e_slices_heapSortCmpFunc_int_rcm n_ (data_11, a_6, b_7, (cmp_5.1, ()), ())).bind fun (m13, _) =>
  some (.inr (m13, ()))) else (
  Option.bind (α := (Int × (List Int) × Unit)) (
  (bif (!wasBalanced_9) then (
  (e_slices_breakPatternsCmpFunc_int_rcm n_ (data_11, a_6, b_7, (cmp_5.1, ()), ())).bind fun (m14, _) =>
  some ((IntKind.i64.wrap (limit_8 - ((1) : Int))), m14, ())) else (
  some (limit_8, data_11, ())))) fun (limit_15, data_16, _) =>
  (e_slices_choosePivotCmpFunc_int_rcm n_ (data_16, a_6, b_7, (cmp_5.1, ()), ())).bind fun (r17, r18, _) =>
  Option.bind (α := (Int × Int × (List Int) × Unit)) (
  (bif (r18 == ((2) : Int)) then (
  (e_slices_reverseRangeCmpFunc_int_rcm n_ (data_16, a_6, b_7, (cmp_5.1, ()), ())).bind fun (m19, _) =>
  some ((IntKind.i64.wrap ((IntKind.i64.wrap (b_7 - ((1) : Int))) - (IntKind.i64.wrap (r17 - a_6)))), ((1) : Int), m19, ())) else (
  some (r17, r18, data_16, ())))) fun (pivot_20, hint_21, data_22, _) =>
  Option.bind (α := ((List Int) × Unit) ⊕ ((Int × Int × Int × Bool × Bool × (List Int) × Unit) ⊕ ((List Int) × Unit))) (
  Option.bind (α := (Bool × (List Int) × Unit)) (
  (bif (wasBalanced_9 == true) then ((bif (wasPartitioned_10 == true) then (some ((hint_21 == ((1) : Int)), data_22, ())) else (some (false, data_22, ())))) else (some (false, data_22, ())))) fun (s_23, data_24, _) =>
  (bif s_23 then (
  (e_slices_partialInsertionSortCmpFunc_int_rcm n_ (data_24, a_6, b_7, (cmp_5.1, ()), ())).bind fun (m25, r26, _) =>
  (bif r26 then (
  some (.inr (.inr (m25, ())))) else (
  some (.inl (m25, ()))))) else (
  some (.inl (data_24, ()))))) fun q => match q with
  | .inl (data_27, _) => (
  Option.bind (α := (Int × (List Int) × Unit) ⊕ ((Int × Int × Int × Bool × Bool × (List Int) × Unit) ⊕ ((List Int) × Unit))) (
  Option.bind (α := (Bool × (List Int) × Unit)) (
  (bif ((decide (a_6 > ((0) : Int))) == true) then ((idxN (data_27).length (IntKind.i64.wrap (a_6 - ((1) : Int)))).bind fun k28 =>
  ((atO data_27 k28 fun e29 => some e29)).bind fun y30 =>
  (idxN (data_27).length pivot_20).bind fun k31 =>
  ((atO data_27 k31 fun e32 => some e32)).bind fun y33 =>
  (e_rcm_grow_1q_q0 n_ (y30, y33, cmp_5.1, ())).bind fun (r34, _) =>
  some ((!(decide (r34 < ((0) : Int)))), data_27, ())) else (some (false, data_27, ())))) fun (s_35, data_36, _) =>
  (bif s_35 then (
  (e_slices_partitionEqualCmpFunc_int_rcm n_ (data_36, a_6, b_7, pivot_20, (cmp_5.1, ()), ())).bind fun (m37, r38, _) =>
  some (.inr (.inl (r38, b_7, limit_15, wasBalanced_9, wasPartitioned_10, m37, ())))) else (
  some (.inl (a_6, data_36, ()))))) fun q => match q with
  | .inl (a_39, data_40, _) => (
  (e_slices_partitionCmpFunc_int_rcm n_ (data_40, a_39, b_7, pivot_20, (cmp_5.1, ()), ())).bind fun (m41, r42, r43, _) =>
  (quoO IntKind.i64 (IntKind.i64.wrap (b_7 - a_6)) ((8) : Int)).bind fun y44 =>
  (bif (decide ((IntKind.i64.wrap (r42 - a_39)) < (IntKind.i64.wrap (b_7 - r42)))) then (
  (f_ (m41, a_39, r42, limit_15, (cmp_5.1, ()), ())).bind fun (m45, _) =>
  some (.inl ((IntKind.i64.wrap (r42 + ((1) : Int))), b_7, limit_15, (decide ((IntKind.i64.wrap (r42 - a_39)) ≥ y44)), r43, m45, ()))) else (
  (f_ (m41, (IntKind.i64.wrap (r42 + ((1) : Int))), b_7, limit_15, (cmp_5.1, ()), ())).bind fun (m46, _) =>
  some (.inl (a_39, r42, limit_15, (decide ((IntKind.i64.wrap (b_7 - r42)) ≥ y44)), r43, m46, ())))))
  | .inr r => some r)
  | .inr r => some r))))) n_ (a_2, b_3, limit_4, true, true, data_1, ())).bind some
set_option maxHeartbeats 4000000 in
theorem le_slices_pdqsortCmpFunc_int_rcmq_s (n_ : Nat) (f_ fb_ : ((List Int) × Int × Int × Int × ((Option ((List (List Int)) × Unit)) × Unit) × Unit) → Option ((List Int) × Unit)) (h_ : ∀ a, Le (f_ a) (fb_ a)) (a : ((List Int) × Int × Int × Int × ((Option ((List (List Int)) × Unit)) × Unit) × Unit)) : Le (e_slices_pdqsortCmpFunc_int_rcmq_s n_ f_ a) (r_slices_pdqsortCmpFunc_int_rcmq_s fb_ a) := by
  unfold e_slices_pdqsortCmpFunc_int_rcmq_s r_slices_pdqsortCmpFunc_int_rcmq_s
  repeat' (first | with_reducible exact Le.refl _ | with_reducible exact le_rcm_grow_1q_q0 _ _ | with_reducible exact le_slices_insertionSortCmpFunc_int_rcm _ _ | with_reducible exact le_slices_heapSortCmpFunc_int_rcm _ _ | with_reducible exact le_slices_breakPatternsCmpFunc_int_rcm _ _ | with_reducible exact le_slices_choosePivotCmpFunc_int_rcm _ _ | with_reducible exact le_slices_reverseRangeCmpFunc_int_rcm _ _ | with_reducible exact le_slices_partialInsertionSortCmpFunc_int_rcm _ _ | with_reducible exact le_slices_partitionEqualCmpFunc_int_rcm _ _ | with_reducible exact le_slices_partitionCmpFunc_int_rcm _ _ | with_reducible exact h_ _ | (with_reducible refine Le.bind ?_ (fun y => ?_)) | (with_reducible refine Le.bif ?_ ?_) | (with_reducible refine Le.loop (fun s => ?_) _ _) | (with_reducible refine Le.atO (fun e => ?_)) | split)
noncomputable def e_slices_pdqsortCmpFunc_int_rcm (n_ : Nat) : ((List Int) × Int × Int × Int × ((Option ((List (List Int)) × Unit)) × Unit) × Unit) → Option ((List Int) × Unit) := deep (e_slices_pdqsortCmpFunc_int_rcmq_s n_) n_
theorem le_slices_pdqsortCmpFunc_int_rcm (n_ : Nat) (a : ((List Int) × Int × Int × Int × ((Option ((List (List Int)) × Unit)) × Unit) × Unit)) : Le (e_slices_pdqsortCmpFunc_int_rcm n_ a) (d_slices_pdqsortCmpFunc_int_rcm a) := Le.deep (le_slices_pdqsortCmpFunc_int_rcmq_s n_) r_slices_pdqsortCmpFunc_int_rcmq_mono n_ a
noncomputable def e_slices_SortFunc_int_int_rcm (n_ : Nat) : ((List Int) × ((Option ((List (List Int)) × Unit)) × Unit) × Unit) → Option ((List Int) × Unit) := fun (x_1, cmp_2, _) =>
  (e_math_bits_Len n_ ((IntKind.u64.wrap (((x_1).length : Nat) : Int)), ())).bind fun (r3, _) =>
  (e_slices_pdqsortCmpFunc_int_rcm n_ (x_1, ((0) : Int), (((x_1).length : Nat) : Int), r3, (cmp_2.1, ()), ())).bind fun (m4, _) =>
  some (m4, ())
set_option maxHeartbeats 4000000 in
theorem le_slices_SortFunc_int_int_rcm (n_ : Nat) (a : ((List Int) × ((Option ((List (List Int)) × Unit)) × Unit) × Unit)) : Le (e_slices_SortFunc_int_int_rcm n_ a) (d_slices_SortFunc_int_int_rcm a) := by
  unfold e_slices_SortFunc_int_int_rcm d_slices_SortFunc_int_int_rcm
  repeat' (first | with_reducible exact Le.refl _ | with_reducible exact le_slices_pdqsortCmpFunc_int_rcm _ _ | with_reducible exact le_math_bits_Len _ _ | (with_reducible refine Le.bind ?_ (fun y => ?_)) | (with_reducible refine Le.bif ?_ ?_) | (with_reducible refine Le.loop (fun s => ?_) _ _) | (with_reducible refine Le.atO (fun e => ?_)) | split)
noncomputable def e_rcm_grow (n_ : Nat) : (((List (List Int)) × Unit) × Int × (List Int) × (List Bool) × Unit) → Option ((List Bool) × (List Int) × Unit) := fun (g_1, start_2, order_3, placed_4, _) =>
  (limO ((order_3).length + ([start_2]).length)).bind fun _ =>
  (idxN (placed_4).length start_2).bind fun k15 =>
  ((atO placed_4 k15 fun _ => some ((placed_4).set k15 true))).bind fun z17 =>
  (loopN (σ := (Int × (List Int) × (List Bool) × Unit)) (ρ := ((List Int) × (List Bool) × Unit)) (fun (at_18, order_19, placed_20, _) =>
  (bif (decide (at_18 < (((order_19).length : Nat) : Int))) then (
  (idxN (order_19).length at_18).bind fun k21 =>
  ((atO order_19 k21 fun e22 => some e22)).bind fun y23 =>
  (getI g_1.1 y23).bind fun y24 =>
  (loopN (σ := (Int × (List Int) × (List Bool) × (List Int) × Unit)) (ρ := ((List Int) × (List Bool) × (List Int) × Unit)) (fun (s_25, order_26, placed_27, next_28, _) =>
  (bif (decide (s_25 < (((y24).length : Nat) : Int))) then (
  Option.bind (α := ((List Int) × (List Bool) × (List Int) × Unit)) (
  (getI y24 s_25).bind fun y29 =>
  (idxN (placed_27).length y29).bind fun k30 =>
  ((atO placed_27 k30 fun e31 => some e31)).bind fun y32 =>
  (bif (!y32) then (
  (idxN (placed_27).length y29).bind fun k33 =>
  ((atO placed_27 k33 fun _ => some ((placed_27).set k33 true))).bind fun z35 =>
  (limO ((next_28).length + ([y29]).length)).bind fun _ =>
  some (order_26, z35, (next_28 ++ [y29]), ())) else (
  some (order_26, placed_27, next_28, ())))) fun (order_36, placed_37, next_38, _) =>
  some (.inl ((IntKind.i64.wrap (s_25 + ((1) : Int))), order_36, placed_37, next_38, ()))) else (
  some (.inr (order_26, placed_27, next_28, ()))))) n_ (((0) : Int), order_19, placed_20, [], ())).bind fun (order_39, placed_40, next_41, _) =>
  (e_slices_SortFunc_int_int_rcm n_ (next_41, ((some g_1), ()), ())).bind fun (m42, _) =>
  (limO ((order_39).length + (m42).length)).bind fun _ =>
  some (.inl ((IntKind.i64.wrap (at_18 + ((1) : Int))), (order_39 ++ m42), placed_40, ()))) else (
  some (.inr (order_19, placed_20, ()))))) n_ ((((order_3).length : Nat) : Int), (order_3 ++ [start_2]), z17, ())).bind fun (order_43, placed_44, _) =>
  some (placed_44, order_43, ())
set_option maxHeartbeats 4000000 in
theorem le_rcm_grow (n_ : Nat) (a : (((List (List Int)) × Unit) × Int × (List Int) × (List Bool) × Unit)) : Le (e_rcm_grow n_ a) (d_rcm_grow a) := by
  unfold e_rcm_grow d_rcm_grow
  repeat' (first | with_reducible exact Le.refl _ | with_reducible exact le_slices_SortFunc_int_int_rcm _ _ | (with_reducible refine Le.bind ?_ (fun y => ?_)) | (with_reducible refine Le.bif ?_ ?_) | (with_reducible refine Le.loop (fun s => ?_) _ _) | (with_reducible refine Le.atO (fun e => ?_)) | split)
noncomputable def e_slices_Reverse_int_int (n_ : Nat) : ((List Int) × Unit) → Option ((List Int) × Unit) := fun (s_1, _) =>
  (loopN (σ := (Int × Int × (List Int) × Unit)) (ρ := ((List Int) × Unit)) (fun (i_2, j_3, s_4, _) =>
  (bif (decide (i_2 < j_3)) then (
  (idxN (s_4).length j_3).bind fun k5 =>
  ((atO s_4 k5 fun e6 => some e6)).bind fun y7 =>
  (idxN (s_4).length i_2).bind fun k8 =>
  ((atO s_4 k8 fun e9 => some e9)).bind fun y10 =>
  (idxN (s_4).length i_2).bind fun k11 =>
  ((atO s_4 k11 fun _ => some ((s_4).set k11 y7))).bind fun z13 =>
  (idxN (z13).length j_3).bind fun k14 =>
  ((atO z13 k14 fun _ => some ((z13).set k14 y10))).bind fun z16 =>
  some (.inl ((IntKind.i64.wrap (i_2 + ((1) : Int))), (IntKind.i64.wrap (j_3 - ((1) : Int))), z16, ()))) else (
  some (.inr (s_4, ()))))) n_ (((0) : Int), (IntKind.i64.wrap ((((s_1).length : Nat) : Int) - ((1) : Int))), s_1, ())).bind fun (s_17, _) =>
  some (s_17, ())
set_option maxHeartbeats 4000000 in
theorem le_slices_Reverse_int_int (n_ : Nat) (a : ((List Int) × Unit)) : Le (e_slices_Reverse_int_int n_ a) (d_slices_Reverse_int_int a) := by
  unfold e_slices_Reverse_int_int d_slices_Reverse_int_int
  repeat' (first | with_reducible exact Le.refl _  | (with_reducible refine Le.bind ?_ (fun y => ?_)) | (with_reducible refine Le.bif ?_ ?_) | (with_reducible refine Le.loop (fun s => ?_) _ _) | (with_reducible refine Le.atO (fun e => ?_)) | split)
noncomputable def e_rcm_Order (n_ : Nat) : (((List (List Int)) × Unit) × Unit) → Option ((List Int) × Int × Unit) := fun (g_1, _) =>
  (e_graph_Check n_ (g_1, ())).bind fun (r21, _) =>
  (bif (r21 != ((0) : Int)) then (
  some ([], r21, ())) else (
  (madeO (((g_1.1).length : Nat) : Int) (((g_1.1).length : Nat) : Int)).bind fun n22 =>
  (e_graph_Components n_ (g_1, ())).bind fun (r23, _) =>
  (loopN (σ := (Int × (List Int) × (List Bool) × (List (List Int)) × Unit)) (ρ := ((List Int) × Unit)) (fun (s_24, order_25, placed_26, s_27, _) =>
  (bif (decide (s_24 < (((r23).length : Nat) : Int))) then (
  (idxN (s_27).length s_24).bind fun k28 =>
  ((atO s_27 k28 fun e29 => some e29)).bind fun y30 =>
  (getI y30 ((0) : Int)).bind fun y31 =>
  (e_graph_Peripheral n_ (g_1, y31, ())).bind fun (r32, _) =>
  (e_rcm_grow n_ (g_1, r32, order_25, placed_26, ())).bind fun (m33, r34, _) =>
  some (.inl ((IntKind.i64.wrap (s_24 + ((1) : Int))), r34, m33, s_27, ()))) else (
  some (.inr (order_25, ()))))) n_ (((0) : Int), [], (List.replicate n22 false), r23, ())).bind fun (order_35, _) =>
  (e_slices_Reverse_int_int n_ (order_35, ())).bind fun (m36, _) =>
  some (m36, ((0) : Int), ())))
set_option maxHeartbeats 4000000 in
theorem le_rcm_Order (n_ : Nat) (a : (((List (List Int)) × Unit) × Unit)) : Le (e_rcm_Order n_ a) (d_rcm_Order a) := by
  unfold e_rcm_Order d_rcm_Order
  repeat' (first | with_reducible exact Le.refl _ | with_reducible exact le_graph_Components _ _ | with_reducible exact le_graph_Peripheral _ _ | with_reducible exact le_graph_Check _ _ | with_reducible exact le_rcm_grow _ _ | with_reducible exact le_slices_Reverse_int_int _ _ | (with_reducible refine Le.bind ?_ (fun y => ?_)) | (with_reducible refine Le.bif ?_ ?_) | (with_reducible refine Le.loop (fun s => ?_) _ _) | (with_reducible refine Le.atO (fun e => ?_)) | split)
noncomputable def e_graph_twice (n_ : Nat) : List Int × Unit → Option (Bool × Unit) := fun a => (twSem (fun l => (e_slices_Sort_int_int n_ (l, ())).map fun r => r.1) a.1).map fun b => (b, ())
theorem le_graph_twice (n_ : Nat) (a : List Int × Unit) : Le (e_graph_twice n_ a) (d_graph_twice a) := twSem_le (fun l => le_slices_Sort_int_int n_ (l, ())) a
noncomputable def e_graph_Permuted_1q_q0 (n_ : Nat) : (Int × (Option ((List (List Int)) × Unit)) × Unit) → Option (Bool × Unit) := fun (v_1, p_2, _) =>
  (p_2).bind fun y3 =>
  (e_graph_vertex n_ (y3, v_1, ())).bind fun (r4, _) =>
  some ((!r4), ())
set_option maxHeartbeats 4000000 in
theorem le_graph_Permuted_1q_q0 (n_ : Nat) (a : (Int × (Option ((List (List Int)) × Unit)) × Unit)) : Le (e_graph_Permuted_1q_q0 n_ a) (d_graph_Permuted_1q_q0 a) := by
  unfold e_graph_Permuted_1q_q0 d_graph_Permuted_1q_q0
  repeat' (first | with_reducible exact Le.refl _ | with_reducible exact le_graph_vertex _ _ | (with_reducible refine Le.bind ?_ (fun y => ?_)) | (with_reducible refine Le.bif ?_ ?_) | (with_reducible refine Le.loop (fun s => ?_) _ _) | (with_reducible refine Le.atO (fun e => ?_)) | split)
noncomputable def e_slices_IndexFunc_int_int_q0 (n_ : Nat) : ((List Int) × ((Option ((List (List Int)) × Unit)) × Unit) × Unit) → Option (Int × Unit) := fun (s_1, f_2, _) =>
  (loopN (σ := (Int × Unit)) (ρ := (Unit ⊕ (Int × Unit))) (fun (s_3, _) =>
  (bif (decide (s_3 < (((s_1).length : Nat) : Int))) then (
  (getI s_1 s_3).bind fun y4 =>
  (e_graph_Permuted_1q_q0 n_ (y4, f_2.1, ())).bind fun (r5, _) =>
  (bif r5 then (
  some (.inr (.inr (s_3, ())))) else (
  some (.inl ((IntKind.i64.wrap (s_3 + ((1) : Int))), ()))))) else (
  some (.inr (.inl ()))))) n_ (((0) : Int), ())).bind fun q => match q with
  | .inl _ => (
  some ((-1 : Int), ()))
  | .inr r => some r
set_option maxHeartbeats 4000000 in
theorem le_slices_IndexFunc_int_int_q0 (n_ : Nat) (a : ((List Int) × ((Option ((List (List Int)) × Unit)) × Unit) × Unit)) : Le (e_slices_IndexFunc_int_int_q0 n_ a) (d_slices_IndexFunc_int_int_q0 a) := by
  unfold e_slices_IndexFunc_int_int_q0 d_slices_IndexFunc_int_int_q0
  repeat' (first | with_reducible exact Le.refl _ | with_reducible exact le_graph_Permuted_1q_q0 _ _ | (with_reducible refine Le.bind ?_ (fun y => ?_)) | (with_reducible refine Le.bif ?_ ?_) | (with_reducible refine Le.loop (fun s => ?_) _ _) | (with_reducible refine Le.atO (fun e => ?_)) | split)
noncomputable def e_slices_ContainsFunc_int_int_q0 (n_ : Nat) : ((List Int) × ((Option ((List (List Int)) × Unit)) × Unit) × Unit) → Option (Bool × Unit) := fun (s_1, f_2, _) =>
  (e_slices_IndexFunc_int_int_q0 n_ (s_1, (f_2.1, ()), ())).bind fun (r3, _) =>
  some ((decide (r3 ≥ ((0) : Int))), ())
set_option maxHeartbeats 4000000 in
theorem le_slices_ContainsFunc_int_int_q0 (n_ : Nat) (a : ((List Int) × ((Option ((List (List Int)) × Unit)) × Unit) × Unit)) : Le (e_slices_ContainsFunc_int_int_q0 n_ a) (d_slices_ContainsFunc_int_int_q0 a) := by
  unfold e_slices_ContainsFunc_int_int_q0 d_slices_ContainsFunc_int_int_q0
  repeat' (first | with_reducible exact Le.refl _ | with_reducible exact le_slices_IndexFunc_int_int_q0 _ _ | (with_reducible refine Le.bind ?_ (fun y => ?_)) | (with_reducible refine Le.bif ?_ ?_) | (with_reducible refine Le.loop (fun s => ?_) _ _) | (with_reducible refine Le.atO (fun e => ?_)) | split)
noncomputable def e_graph_Permuted (n_ : Nat) : (((List (List Int)) × Unit) × (List Int) × Unit) → Option (Int × Unit) := fun (g_1, order_2, _) =>
  (e_graph_Check n_ (g_1, ())).bind fun (r3, _) =>
  (bif (r3 != ((0) : Int)) then (
  some (r3, ())) else (
  (bif ((((order_2).length : Nat) : Int) != (((g_1.1).length : Nat) : Int)) then (
  some (((2) : Int), ())) else (
  (e_slices_ContainsFunc_int_int_q0 n_ (order_2, ((some g_1), ()), ())).bind fun (r4, _) =>
  (bif (r4 == false) then ((e_graph_twice n_ (order_2, ())).bind fun (r5, _) =>
  (bif r5 then (
  some (((90) : Int), ())) else (
  some (((0) : Int), ())))) else (some (((90) : Int), ())))))))
set_option maxHeartbeats 4000000 in
theorem le_graph_Permuted (n_ : Nat) (a : (((List (List Int)) × Unit) × (List Int) × Unit)) : Le (e_graph_Permuted n_ a) (d_graph_Permuted a) := by
  unfold e_graph_Permuted d_graph_Permuted
  repeat' (first | with_reducible exact Le.refl _ | with_reducible exact le_slices_ContainsFunc_int_int_q0 _ _ | with_reducible exact le_graph_Check _ _ | with_reducible exact le_graph_twice _ _ | (with_reducible refine Le.bind ?_ (fun y => ?_)) | (with_reducible refine Le.bif ?_ ?_) | (with_reducible refine Le.loop (fun s => ?_) _ _) | (with_reducible refine Le.atO (fun e => ?_)) | split)
noncomputable def e_rcm_positions (n_ : Nat) : ((List Int) × Unit) → Option ((List Int) × Unit) := fun (order_1, _) =>
  (madeO (((order_1).length : Nat) : Int) (((order_1).length : Nat) : Int)).bind fun n2 =>
  (loopN (σ := (Int × (List Int) × Unit)) (ρ := ((List Int) × Unit)) (fun (s_3, out_4, _) =>
  (bif (decide (s_3 < (((order_1).length : Nat) : Int))) then (
  (getI order_1 s_3).bind fun y5 =>
  (idxN (out_4).length y5).bind fun k6 =>
  ((atO out_4 k6 fun _ => some ((out_4).set k6 s_3))).bind fun z8 =>
  some (.inl ((IntKind.i64.wrap (s_3 + ((1) : Int))), z8, ()))) else (
  some (.inr (out_4, ()))))) n_ (((0) : Int), (List.replicate n2 (0 : Int)), ())).bind fun (out_9, _) =>
  some (out_9, ())
set_option maxHeartbeats 4000000 in
theorem le_rcm_positions (n_ : Nat) (a : ((List Int) × Unit)) : Le (e_rcm_positions n_ a) (d_rcm_positions a) := by
  unfold e_rcm_positions d_rcm_positions
  repeat' (first | with_reducible exact Le.refl _  | (with_reducible refine Le.bind ?_ (fun y => ?_)) | (with_reducible refine Le.bif ?_ ?_) | (with_reducible refine Le.loop (fun s => ?_) _ _) | (with_reducible refine Le.atO (fun e => ?_)) | split)
noncomputable def e_rcm_Bandwidth (n_ : Nat) : (((List (List Int)) × Unit) × (List Int) × Unit) → Option (Int × Int × Unit) := fun (g_1, order_2, _) =>
  (e_graph_Permuted n_ (g_1, order_2, ())).bind fun (r3, _) =>
  (bif (r3 != ((0) : Int)) then (
  some (((0) : Int), r3, ())) else (
  (e_rcm_positions n_ (order_2, ())).bind fun (r4, _) =>
  (loopN (σ := (Int × Int × Unit)) (ρ := (Int × Unit)) (fun (width_5, s_6, _) =>
  (bif (decide (s_6 < (((g_1.1).length : Nat) : Int))) then (
  (getI g_1.1 s_6).bind fun y7 =>
  (loopN (σ := (Int × Int × Unit)) (ρ := (Int × Unit)) (fun (width_8, s_9, _) =>
  (bif (decide (s_9 < (((y7).length : Nat) : Int))) then (
  (getI y7 s_9).bind fun y10 =>
  (getI r4 s_6).bind fun y11 =>
  (getI r4 y10).bind fun y12 =>
  some (.inl ((if (IntKind.i64.wrap (y11 - y12)) > width_8 then (IntKind.i64.wrap (y11 - y12)) else width_8), (IntKind.i64.wrap (s_9 + ((1) : Int))), ()))) else (
  some (.inr (width_8, ()))))) n_ (width_5, ((0) : Int), ())).bind fun (width_13, _) =>
  some (.inl (width_13, (IntKind.i64.wrap (s_6 + ((1) : Int))), ()))) else (
  some (.inr (width_5, ()))))) n_ (((0) : Int), ((0) : Int), ())).bind fun (width_14, _) =>
  some (width_14, ((0) : Int), ())))
set_option maxHeartbeats 4000000 in
theorem le_rcm_Bandwidth (n_ : Nat) (a : (((List (List Int)) × Unit) × (List Int) × Unit)) : Le (e_rcm_Bandwidth n_ a) (d_rcm_Bandwidth a) := by
  unfold e_rcm_Bandwidth d_rcm_Bandwidth
  repeat' (first | with_reducible exact Le.refl _ | with_reducible exact le_graph_Permuted _ _ | with_reducible exact le_rcm_positions _ _ | (with_reducible refine Le.bind ?_ (fun y => ?_)) | (with_reducible refine Le.bif ?_ ?_) | (with_reducible refine Le.loop (fun s => ?_) _ _) | (with_reducible refine Le.atO (fun e => ?_)) | split)
noncomputable def e_sparselaw17q_awake (n_ : Nat) : Unit → Option (Bool × Unit) := fun _ =>
  (e_rcm_Order n_ (([[((1) : Int)], [((0) : Int), ((2) : Int)], [((1) : Int)]], ()), ())).bind fun (r1, r2, _) =>
  (e_rcm_Bandwidth n_ (([[((1) : Int)], [((0) : Int), ((2) : Int)], [((1) : Int)]], ()), [((0) : Int), ((2) : Int), ((1) : Int)], ())).bind fun (r3, r4, _) =>
  (bif ((r2 == ((0) : Int)) == true) then ((bif ((r4 == ((0) : Int)) == true) then ((e_sparsekit_Ints n_ (r1, [((2) : Int), ((1) : Int), ((0) : Int)], ())).bind fun (r5, _) =>
  (bif (r5 == true) then (some ((r3 == ((2) : Int)), ())) else (some (false, ())))) else (some (false, ())))) else (some (false, ())))
set_option maxHeartbeats 4000000 in
theorem le_sparselaw17q_awake (n_ : Nat) (a : Unit) : Le (e_sparselaw17q_awake n_ a) (d_sparselaw17q_awake a) := by
  unfold e_sparselaw17q_awake d_sparselaw17q_awake
  repeat' (first | with_reducible exact Le.refl _ | with_reducible exact le_rcm_Order _ _ | with_reducible exact le_rcm_Bandwidth _ _ | with_reducible exact le_sparsekit_Ints _ _ | (with_reducible refine Le.bind ?_ (fun y => ?_)) | (with_reducible refine Le.bif ?_ ?_) | (with_reducible refine Le.loop (fun s => ?_) _ _) | (with_reducible refine Le.atO (fun e => ?_)) | split)
theorem awake17 : d_sparselaw17q_awake () = some (true, ()) := le_sparselaw17q_awake 20 () _ (by decide +kernel)
end Go.Fw
end

section
namespace Go.Fw
set_option linter.unusedSimpArgs false
set_option linter.unusedVariables false
open Go
def posN (o : List Int) (x : Nat) : Nat := o.idxOf (x : Int)
section
variable {o : List Int} {n : Nat} (hp : IsPerm o n)
include hp
theorem IsPerm.mem {x : Nat} (hx : x < n) : (x : Int) ∈ o := by
  apply Classical.byContradiction
  intro hno
  obtain ⟨h1, h2, h3⟩ := hp
  have e : o = natL (o.map Int.toNat) := by
    unfold natL
    rw [List.map_map]
    conv => lhs; rw [← List.map_id o]
    refine List.map_congr_left fun y h => ?_
    have := h2 y h
    simp only [id, Function.comp]
    omega
  have hd : (o.map Int.toNat).Nodup := by
    rw [List.nodup_iff_pairwise_ne, List.pairwise_map]
    refine (List.pairwise_iff_getElem.2 fun i j hi hj hij => ?_)
    have a := h2 _ (List.getElem_mem hi)
    have b := h2 _ (List.getElem_mem hj)
    have := List.pairwise_iff_getElem.1 (List.nodup_iff_pairwise_ne.1 h3) i j hi hj hij
    omega
  have hne : x ∉ o.map Int.toNat := fun h => hno (by rw [e]; exact mem_natL.2 h)
  have := nodup_le (n := n) (List.nodup_cons.2 ⟨hne, hd⟩) (fun y hy => by
    rcases List.mem_cons.1 hy with rfl | hy
    · exact hx
    · obtain ⟨z, hz, rfl⟩ := List.mem_map.1 hy
      have := h2 z hz
      omega)
  rw [List.length_cons, List.length_map] at this
  omega
theorem IsPerm.pos {x : Nat} (hx : x < n) : posN o x < n ∧ ordN o (posN o x) = x := by
  have h := hp.mem hx
  have h1 : posN o x < o.length := List.idxOf_lt_length_iff.2 h
  refine ⟨by rw [← hp.1]; exact h1, ?_⟩
  unfold ordN
  rw [getD_lt h1, show o[posN o x] = (x : Int) from List.getElem_idxOf h1]
  simp
theorem IsPerm.pos_ord {k : Nat} (hk : k < n) : posN o (ordN o k) = k := by
  have h1 := (hp.get hk).2
  obtain ⟨h2, h3⟩ := hp.pos h1
  exact hp.inj h2 hk h3
theorem positions_eq (hn : n ≤ 4000) : d_rcm_positions (o, ()) = some (fT n (fun x => (posN o x : Int)), ()) := by
  have hl := hp.1
  unfold d_rcm_positions
  dsimp only
  rw [hl]
  simp (disch := omega) only [madeO_ok, Option.bind_some, fT_replicate]
  refine bindR (fT n (fun x => (posN o x : Int)), ()) rfl (loop_for n (fun k => (fT n (fun x => if posN o x < k then (posN o x : Int) else 0), ())) 0 rfl ?_ (Nat.zero_le _) ?_ ?_)
  · exact congrArg (fun a => (a, ())) (fT_congr fun x _ => by rw [if_neg (by omega)])
  · intro k _ hk
    obtain ⟨h1, h2⟩ := hp.get hk
    simp (disch := omega) only [cond_dec, if_pos, h1, Option.bind_some, fT_length, idxN_nat, atO_fT, fT_set, wrap_inc]
    refine congrArg (fun a => some (Sum.inl (((k + 1 : Nat) : Int), a, ()))) (fT_congr fun x hx => ?_)
    simp only [upd]
    by_cases c : x = ordN o k
    · rw [if_pos c, c, hp.pos_ord hk, if_pos (by omega)]
    · rw [if_neg c]
      have : posN o x ≠ k := fun e => c (by rw [← e, (hp.pos hx).2])
      by_cases c2 : posN o x < k
      · rw [if_pos c2, if_pos (by omega)]
      · rw [if_neg c2, if_neg (by omega)]
  · simp (disch := omega) only [cond_dec, if_neg]
    exact congrArg (fun a => some (Sum.inr (a, ()))) (fT_congr fun x hx => by rw [if_pos (hp.pos hx).1])
end
def fsK (adj : List (List Int)) (o : List Int) (k j : Nat) : Nat := ((adj.getD (ordN o k) []).take j).foldl (fun m x => if posN o x.toNat < m then posN o x.toNat else m) k
def fsV (adj : List (List Int)) (o : List Int) (k : Nat) : Nat := fsK adj o k (adj.getD (ordN o k) []).length
theorem fsK_succ (adj : List (List Int)) (o : List Int) (k : Nat) {j : Nat} (h : j < (adj.getD (ordN o k) []).length) :
    fsK adj o k (j + 1) = if posN o ((adj.getD (ordN o k) [])[j]).toNat < fsK adj o k j then posN o ((adj.getD (ordN o k) [])[j]).toNat else fsK adj o k j := by
  unfold fsK
  rw [← take_snoc h, List.foldl_append]
  rfl
def hdV (adj : List (List Int)) (o : List Int) (k : Nat) : Nat := k - fsV adj o k
def prK (adj : List (List Int)) (o : List Int) (k : Nat) : Nat := ((List.range k).map (hdV adj o)).sum
theorem prK_succ (adj : List (List Int)) (o : List Int) (k : Nat) : prK adj o (k + 1) = prK adj o k + hdV adj o k := by
  unfold prK; rw [List.range_succ, List.map_append, List.sum_append]; simp
theorem hdV_le (adj : List (List Int)) (o : List Int) (k : Nat) : hdV adj o k ≤ k := by unfold hdV; omega
theorem prK_le (adj : List (List Int)) (o : List Int) (k : Nat) : prK adj o k ≤ k * k := by
  induction k with
  | zero => exact Nat.le_refl _
  | succ k ih =>
    rw [prK_succ]
    have := hdV_le adj o k
    have e : (k + 1) * (k + 1) = k * k + 2 * k + 1 := by rw [Nat.add_mul, Nat.mul_add]; omega
    omega
section
variable {adj : List (List Int)} (hV : Valid adj) {o : List Int} (hp : IsPerm o adj.length)
include hV hp
theorem fsV_is {k : Nat} (hk : k < adj.length) : fsV adj o k ≤ k ∧ (∀ w, Nb adj (ordN o k) w → fsV adj o k ≤ posN o w) ∧ (fsV adj o k = k ∨ ∃ w, Nb adj (ordN o k) w ∧ posN o w = fsV adj o k) := by
  have ho := (hp.get hk).2
  have hget : adj.getD (ordN o k) [] = adj[ordN o k] := getD_lt ho []
  have key : ∀ j, j ≤ (adj.getD (ordN o k) []).length → fsK adj o k j ≤ k ∧ (∀ w : Nat, (w : Int) ∈ (adj.getD (ordN o k) []).take j → fsK adj o k j ≤ posN o w) ∧ (fsK adj o k j = k ∨ ∃ w, Nb adj (ordN o k) w ∧ posN o w = fsK adj o k j) := by
    intro j
    induction j with
    | zero => intro _; exact ⟨by simp [fsK], by simp, .inl (by simp [fsK])⟩
    | succ j ih =>
      intro hj
      obtain ⟨i1, i2, i3⟩ := ih (by omega)
      obtain ⟨w, hw, hwn⟩ := nb_get hV ho (j := j) (by rw [← hget]; omega)
      have hw' : (adj.getD (ordN o k) [])[j]'(by omega) = (w : Int) := by simp only [hget]; exact hw
      rw [fsK_succ adj o k (by omega), hw', Int.toNat_natCast]
      have hnb : Nb adj (ordN o k) w := ⟨ho, by rw [← hw]; exact List.getElem_mem _⟩
      have hts := take_mem_succ (show j < (adj.getD (ordN o k) []).length by omega) hw'
      by_cases c : posN o w < fsK adj o k j
      · rw [if_pos c]
        refine ⟨by omega, fun x hx => ?_, .inr ⟨w, hnb, rfl⟩⟩
        rcases (hts x).1 hx with hx | rfl
        · have := i2 x hx; omega
        · omega
      · rw [if_neg c]
        refine ⟨i1, fun x hx => ?_, i3⟩
        rcases (hts x).1 hx with hx | rfl
        · exact i2 x hx
        · omega
  obtain ⟨k1, k2, k3⟩ := key _ (Nat.le_refl _)
  refine ⟨k1, fun w hw => k2 w ?_, k3⟩
  rw [List.take_length, hget]
  exact hw.2
theorem Profile_ok (hn : adj.length ≤ 12) : d_rcm_Profile ((adj, ()), o, ()) = some ((prK adj o adj.length : Int), 0, ()) := by
  have h0 : permE adj o = 0 := perm_iff (by omega) hV hp
  unfold d_rcm_Profile
  simp only [Permuted_eq (hV.hc (by omega)) o (fun _ _ => hn) (by rw [hp.1]; omega), h0, Option.bind_some, bne_self_eq_false, cond_false, positions_eq hp (show adj.length ≤ 4000 by omega), hp.1]
  refine bindR ((prK adj o adj.length : Int), ()) rfl (loop_seq adj.length (fun k => ((prK adj o k : Int), (k : Int), ())) 0 rfl (Nat.zero_le _) ?_ ?_)
  · intro k _ hk
    obtain ⟨h1, h2⟩ := hp.get hk
    have hga : getI adj ((ordN o k : Nat) : Int) = some adj[ordN o k] := getN_some (List.getElem?_eq_getElem h2)
    have hget : adj.getD (ordN o k) [] = adj[ordN o k] := getD_lt h2 []
    have hvl := (hV.asc _ h2).length
    simp (disch := omega) only [cond_dec, if_pos, h1, hga, Option.bind_some]
    refine bindR ((fsV adj o k : Int), ()) ?_ (loop_seq adj[ordN o k].length (fun j => ((fsK adj o k j : Int), (j : Int), ())) 0 (by simp [fsK]) (Nat.zero_le _) ?_ ?_)
    · have hf := (fsV_is hV hp hk).1
      have hpk := prK_le adj o k
      have hkk : k * k ≤ 12 * 12 := Nat.mul_le_mul (by omega) (by omega)
      have e1 : prK adj o k + (k - fsV adj o k) = prK adj o (k + 1) := by rw [prK_succ]; rfl
      simp (disch := omega) only [Option.bind_some, wrap_sub, wrap_add, wrap_inc, e1]
    · intro j _ hj
      obtain ⟨w, hw, hwn⟩ := nb_get hV h2 hj
      have hgj : getI adj[ordN o k] (j : Int) = some (w : Int) := getN_some (by rw [List.getElem?_eq_getElem hj, hw])
      have hgp : getI (fT adj.length (fun x => (posN o x : Int))) (w : Int) = some (posN o w : Int) := getN_some (fT_get hwn)
      have hw' : (adj.getD (ordN o k) [])[j]'(by rw [hget]; exact hj) = (w : Int) := by simp only [hget]; exact hw
      rw [fsK_succ adj o k (by rw [hget]; exact hj), hw', Int.toNat_natCast]
      simp (disch := omega) only [cond_dec, if_pos, hgj, hgp, Option.bind_some, wrap_inc]
      by_cases c : posN o w < fsK adj o k j
      · rw [if_pos (by omega), if_pos c]
      · rw [if_neg (by omega), if_neg c]
    · simp (disch := omega) only [cond_dec, if_neg]
      unfold fsV; rw [hget]
  · simp (disch := omega) only [cond_dec, if_neg]
end
end Go.Fw
end

section
namespace Go.Fw
set_option linter.unusedSimpArgs false
set_option linter.unusedVariables false
open Go
section
variable {adj : List (List Int)} (hV : Valid adj) (hn : adj.length ≤ 12)
include hV hn
end
section
variable {adj : List (List Int)} (hc : ∀ l ∈ adj, l.length < 4611686018427387904) (ho : adj.length ≤ 200 → Valid adj → adj.length ≤ 12)
include hc ho
variable (o : List Int) (hol : o.length < 4611686018427387904)
include hol
end
theorem WalkP.last {A : Nat → Nat → Prop} {P : Nat → Prop} {i j : Nat} (h : WalkP A P i j) : ∃ m, (m = i ∨ P m) ∧ A m j := by
  induction h with
  | one h => exact ⟨_, .inl rfl, h⟩
  | step _ hm _ ih =>
    obtain ⟨x, hx, hxj⟩ := ih
    exact ⟨x, .inr (hx.elim (fun e => e ▸ hm) id), hxj⟩
theorem nB_gap {f i : Nat} : ∀ n, i ≤ n → f ≤ i → nB n (fun k => decide (f ≤ k ∧ k < i)) = i - f := by
  intro n
  induction n with
  | zero => intro h1 h2; obtain rfl : i = 0 := by omega
            show 0 = _; omega
  | succ n ih =>
    intro h1 h2
    unfold nB at *
    rw [List.range_succ, List.filter_append, List.length_append]
    by_cases h : i ≤ n
    · rw [ih h h2]
      rw [List.filter_cons_of_neg (by simp; omega)]
      simp
    · obtain rfl : i = n + 1 := by omega
      by_cases hf : f ≤ n
      · rw [List.filter_cons_of_pos (by simp; omega)]
        have e : ((List.range n).filter fun k => decide (f ≤ k ∧ k < n + 1)) = (List.range n).filter fun k => decide (f ≤ k ∧ k < n) := by
          refine List.filter_congr fun x hx => ?_
          have := List.mem_range.1 hx
          exact decide_eq_decide.2 ⟨fun h => ⟨h.1, this⟩, fun h => ⟨h.1, by omega⟩⟩
        rw [e]
        have key : ∀ m, f ≤ m → ((List.range m).filter fun k => decide (f ≤ k ∧ k < m)).length = m - f := by
          intro m
          induction m with
          | zero => intro _; simp
          | succ m ihm =>
            intro hfm
            rw [List.range_succ, List.filter_append, List.length_append]
            by_cases hfm2 : f ≤ m
            · have e2 : ((List.range m).filter fun k => decide (f ≤ k ∧ k < m + 1)) = (List.range m).filter fun k => decide (f ≤ k ∧ k < m) := by
                refine List.filter_congr fun x hx => ?_
                have := List.mem_range.1 hx
                exact decide_eq_decide.2 ⟨fun h => ⟨h.1, this⟩, fun h => ⟨h.1, by omega⟩⟩
              rw [e2, ihm hfm2, List.filter_cons_of_pos (by simp <;> omega)]
              simp; omega
            · obtain rfl : f = m + 1 := by omega
              rw [List.filter_cons_of_neg (by simp)]
              rw [List.filter_eq_nil_iff.2 (fun x hx => by have := List.mem_range.1 hx; simp <;> omega)]
              simp
        rw [key n hf]
        simp; omega
      · obtain rfl : f = n + 1 := by omega
        rw [List.filter_cons_of_neg (by simp), List.filter_eq_nil_iff.2 (fun x hx => by have := List.mem_range.1 hx; simp <;> omega)]
        simp
section
variable {adj : List (List Int)} (hV : Valid adj) {o : List Int}
include hV
theorem dg_le_prof (hpm : o.Perm (natL (List.range adj.length))) : ((List.range adj.length).map fun k => dgN adj o k).sum ≤ prK adj o adj.length := by
  have hp : IsPerm o adj.length := perm_natL hpm
  have h1 : ((List.range adj.length).map fun k => dgN adj o k) = (List.range adj.length).map fun k => nB adj.length (fun i => bT adj (ahead o k) (ordN o k) (ordN o i)) := by
    refine List.map_congr_left fun k _ => ?_
    exact nB_perm hpm _
  rw [h1, sum_swap (fun k i => bT adj (ahead o k) (ordN o k) (ordN o i))]
  unfold prK
  refine sum_le fun i hi => ?_
  have hi := List.mem_range.1 hi
  obtain ⟨f1, f2, f3⟩ := fsV_is hV hp hi
  unfold hdV
  rw [← nB_gap adj.length (by omega) f1]
  refine nB_mono fun k hk h => ?_
  obtain ⟨h1, h2, h3, h4⟩ := bT_iff.1 h
  obtain ⟨m, hm, hmi⟩ := h4.last
  refine decide_eq_true ⟨?_, ?_⟩
  · rcases hm with rfl | ⟨j, hj, rfl⟩
    · have := f2 _ (Nb.symm hV _ _ hmi)
      rwa [hp.pos_ord hk] at this
    · have := f2 _ (Nb.symm hV _ _ hmi)
      rw [hp.pos_ord (by omega)] at this
      omega
  · rcases Nat.lt_trichotomy k i with h | h | h
    · exact h
    · subst h; exact absurd rfl h1
    · exact absurd ⟨i, h, rfl⟩ h3
theorem refDegrees_ok (hn : adj.length ≤ 200) (hp : IsPerm o adj.length) : d_sparseref16q_Degrees ((adj, ()), o, ()) = some (fT adj.length (fun k => (dgN adj o k : Int)), 0, ()) := by
  classical
  have h0 : chk adj = 0 := chk_zero.2 ⟨hn, hV⟩
  have hl : ((o.length : Nat) : Int) = ((adj.length : Nat) : Int) := by rw [hp.1]
  rw [← Ok.eq_iff]
  unfold d_sparseref16q_Degrees
  simp only [refCheck_eq adj (hV.hc hn), Option.bind_some, h0, bne_self_eq_false, cond_false, hl, Perm_eq o adj.length (by omega), decT hp, Bool.not_true]
  refine Ok.bind_of (Begin_ok hV (hV.hc hn) hn) ?_
  rintro ⟨⟨T, gone, ⟨⟩⟩, ⟨⟩⟩ hE
  simp only at hE
  refine Ok.bind_of (P := fun r => r = (fT adj.length (fun k => (dgN adj o k : Int)), ())) ?_ (by rintro _ rfl; exact Ok.some_iff.2 rfl)
  refine Ok.for adj.length (fun k t => ∃ T gone, t = ((T, gone, ()), fT k (fun k => (dgN adj o k : Int)), ()) ∧ Elim adj (ahead o k) T gone) (i0 := 0) rfl ⟨T, gone, rfl, ?_⟩ (Nat.zero_le _) ?_ ?_
  · have : ahead o 0 = fun _ => False := by
      funext x
      exact propext ⟨fun ⟨j, h, _⟩ => by omega, fun h => h.elim⟩
    rw [this]; exact hE
  · rintro k _ _ hk ⟨T, gone, rfl, hE⟩
    obtain ⟨g1, g2⟩ := hp.get hk
    have hna : ¬ ahead o k (ordN o k) := fun ⟨j, hj, e⟩ => by
      have := hp.inj (by omega) hk e.symm
      omega
    have hdl : (nbrV T gone (ordN o k) adj.length).length = dgN adj o k := by
      have : nbrV T gone (ordN o k) adj.length = natL ((List.range adj.length).filter (bT adj (ahead o k) (ordN o k))) := by
        refine sorted_ext (nbrV_asc ..) (sorted_filter _ _) fun x => ?_
        constructor
        · intro hx
          obtain ⟨w, rfl, hw⟩ := nbrV_rng hx
          obtain ⟨h1, h2, h3, h4⟩ := (mem_nbrV hE g2 hna).1 hx
          exact mem_natL.2 (List.mem_filter.2 ⟨List.mem_range.2 h1, bT_iff.2 ⟨h3, hna, h2, h4⟩⟩)
        · intro hx
          obtain ⟨w, hw, rfl⟩ := List.mem_map.1 hx
          obtain ⟨h1, h2⟩ := List.mem_filter.1 hw
          obtain ⟨b1, b2, b3, b4⟩ := bT_iff.1 h2
          exact (mem_nbrV hE g2 hna).2 ⟨List.mem_range.1 h1, b3, b1, b4⟩
      rw [this, natL_length]; rfl
    simp (disch := first | omega | (simp [fT_length]; omega)) only [cond_dec, if_pos, g1, Option.bind_some, Neighbours_eq hE.tl hE.rows hE.gl (by omega) g2, limO_ok, hdl]
    refine Ok.bind_of (Eliminate_ok hV (by omega) hE g2 hna) ?_
    rintro ⟨⟨T2, gone2, ⟨⟩⟩, ⟨⟩⟩ hE2
    simp only at hE2
    simp (disch := omega) only [wrap_inc]
    refine Ok.some_iff.2 ⟨rfl, T2, gone2, by rw [fT_succ], ?_⟩
    have : ahead o (k + 1) = fun x => ahead o k x ∨ x = ordN o k := by
      funext x
      refine propext ⟨fun ⟨j, h, e⟩ => ?_, ?_⟩
      · rcases Nat.lt_or_ge j k with h2 | h2
        · exact .inl ⟨j, h2, e⟩
        · obtain rfl : j = k := by omega
          exact .inr e
      · rintro (⟨j, h, e⟩ | e)
        · exact ⟨j, by omega, e⟩
        · exact ⟨k, by omega, e⟩
    rw [this]; exact hE2
  · rintro _ ⟨T, gone, rfl, hE⟩
    simp (disch := omega) only [cond_dec, if_neg]
    exact Ok.some_iff.2 rfl
end
theorem RcmEnvelope_true (n : Int) (l o : List Int) : d_sparselaw17q_RcmEnvelope (n, l, o, ()) = some (true, ()) := by
  classical
  rw [← Ok.eq_iff]
  unfold d_sparselaw17q_RcmEnvelope
  simp only [cond_dec, awake17, Option.bind_some, Place_eq n 13 (by omega) (by omega)]
  refine Ok.ite (fun _ => Ok.some_iff.2 rfl) (fun hl => ?_)
  obtain ⟨m, hm, hm2⟩ := place_nat n 13 (by omega)
  rw [hm]
  refine Ok.bind_of (Graph_ok m l (by omega) (by omega)) ?_
  rintro ⟨⟨adj, ⟨⟩⟩, ⟨⟩⟩ ⟨hal, hV, hx⟩
  simp only at hal hV hx
  refine Ok.bind_of (Shuffle_perm o m (by omega)) ?_
  rintro ⟨p, ⟨⟩⟩ hpm
  simp only at hpm
  rw [← hal] at hpm
  have hp := perm_natL hpm
  have hn : adj.length ≤ 12 := by omega
  have hle := dg_le_prof hV hpm
  have hdn : ∀ k, dgN adj p k ≤ adj.length := fun k => by unfold dgN; exact Nat.le_trans (List.length_filter_le _ _) (by simp)
  have hsum : ∀ k, k ≤ adj.length → ((List.range k).map fun k => dgN adj p k).sum ≤ k * 12 := fun k hk => by
    have := sum_le (l := List.range k) (f := fun k => dgN adj p k) (g := fun _ => 12) (fun x _ => by have := hdn x; omega)
    rw [sum_const] at this
    exact this
  simp only [Profile_ok hV hp hn, refDegrees_ok hV (show adj.length ≤ 200 by omega) hp, Option.bind_some, fT_length]
  refine Ok.bind_of (P := fun r => r = (((((List.range adj.length).map fun k => dgN adj p k).sum : Nat) : Int), ())) ?_ ?_
  · rw [Ok.eq_iff]
    refine loop_seq adj.length (fun k => (((((List.range k).map fun k => dgN adj p k).sum : Nat) : Int), (k : Int), ())) 0 rfl (Nat.zero_le _) ?_ ?_
    · intro k _ hk
      have hg : getI (fT adj.length (fun k => (dgN adj p k : Int))) (k : Int) = some (dgN adj p k : Int) := getN_some (fT_get hk)
      have h1 := hsum k (by omega)
      have h2 := hdn k
      have e : ((List.range (k + 1)).map fun k => dgN adj p k).sum = ((List.range k).map fun k => dgN adj p k).sum + dgN adj p k := by
        rw [List.range_succ, List.map_append, List.sum_append]; simp
      simp (disch := omega) only [cond_dec, if_pos, hg, Option.bind_some, wrap_add, wrap_inc, e]
    · simp (disch := omega) only [cond_dec, if_neg]
  · rintro _ rfl
    simp only [beq_self_eq_true, cond_true, cond_dec_beq]
    rw [if_pos (by omega)]
    exact Ok.some_iff.2 rfl
section
variable {adj : List (List Int)} (hV : Valid adj) {o : List Int} (hp : IsPerm o adj.length)
include hV hp
end
section
variable {adj : List (List Int)} (hV : Valid adj) (hn : adj.length ≤ 200) {o : List Int} (hp : IsPerm o adj.length)
include hV hn hp
end
end Go.Fw
end
