/-
  The plain laws, part 9: graphs made from numbers.
-/
import Derived.Test.YtlalecmgnaoiiaaPl8
set_option linter.unusedSimpArgs false
set_option linter.unusedVariables false
namespace Go.Fw

theorem In_eq (l : List Int) (v : Int) (hl : l.length < 4611686018427387904) : d_sparsekit_In (l, v, ()) = some (decide (v ∈ l), ()) := by
  rw [← Ok.eq_iff]
  unfold d_sparsekit_In
  simp only [Ok.bind_iff]
  refine Ok.for (i0 := 0) l.length (fun i _ => v ∉ l.take i) rfl (by simp) (Nat.zero_le _) ?_ ?_
  · rintro i _ _ hi hI
    simp only [Ok.bif_iff, Ok.bind_iff, Ok.some_iff, Ok.getN_iff]
    refine ⟨fun _ => ⟨hi, fun he => ?_, fun hne => ⟨wrap_succ (by omega), ?_⟩⟩, fun hf => by simp at hf; omega⟩
    · have he : l[i] = v := by simpa using he
      have : v ∈ l := he ▸ List.getElem_mem hi
      simp [this]
    · rw [← take_snoc hi, List.mem_append]
      have hne : ¬ l[i] = v := by simpa using hne
      rintro (h | h)
      · exact hI h
      · exact hne (List.mem_singleton.1 h).symm
  · rintro _ hI
    simp only [Ok.bif_iff, Ok.some_iff]
    refine ⟨fun hf => by simp at hf, fun _ => ?_⟩
    rw [List.take_length] at hI
    simp [hI]

/-- A number's place among n. -/
def placeV (a n : Int) : Int := (a % 18446744073709551616) % n
theorem wrapU64q_eq (x : Int) : IntKind.u64.wrap x = x % 18446744073709551616 := by
  unfold IntKind.wrap
  rw [if_neg (by simp [IntKind.signed])]
  rfl
theorem placeV_lt (a n : Int) (h : 0 < n) : 0 ≤ placeV a n ∧ placeV a n < n := by
  unfold placeV
  exact ⟨Int.emod_nonneg _ (by omega), Int.emod_lt_of_pos _ h⟩
theorem Place_eq (a n : Int) (h : 0 < n) (h2 : n ≤ 4294967296) : d_sparsekit_Place (a, n, ()) = some (placeV a n, ()) := by
  rw [← Ok.eq_iff]
  unfold d_sparsekit_Place
  simp only [Ok.bind_iff, wrapU64q_eq, show n % 18446744073709551616 = n by omega]
  unfold remO
  rw [if_pos (by omega)]
  have h3 : (a % 18446744073709551616).tmod n = placeV a n := Int.tmod_eq_emod_of_nonneg (Int.emod_nonneg _ (by omega))
  rw [Ok.some_iff, h3]
  have := placeV_lt a n h
  simp only [Ok.some_iff]
  rw [wrap64 (by omega) (by omega)]

def bitT (t : List (List Bool)) (v w : Nat) : Bool := (t.getD v []).getD w false
def lineT (t : List (List Bool)) (v k : Nat) : List Int := ((List.range k).filter fun w => v != w && (bitT t v w || bitT t w v)).map fun (w : Nat) => (w : Int)
def fromT (t : List (List Bool)) : List (List Int) := (List.range t.length).map fun v => lineT t v t.length

theorem lineT_length (t : List (List Bool)) (v k : Nat) : (lineT t v k).length ≤ k := by
  unfold lineT
  rw [List.length_map]
  exact Nat.le_trans (List.length_filter_le _ _) (by simp)
theorem lineT_succ (t : List (List Bool)) (v k : Nat) : lineT t v (k + 1) = lineT t v k ++ (if (v != k && (bitT t v k || bitT t k v)) = true then [(k : Int)] else []) := by
  unfold lineT
  rw [List.range_succ, List.filter_append, List.map_append]
  congr 1
  by_cases h : (v != k && (bitT t v k || bitT t k v)) = true
  · rw [if_pos h]; simp only [List.filter_cons, h, List.filter_nil]; rfl
  · rw [if_neg h]; simp only [List.filter_cons, List.filter_nil]; rw [if_neg h]; rfl

theorem bitT_get {t : List (List Bool)} {v w : Nat} (hv : v < t.length) (hw : w < t[v].length) : bitT t v w = t[v][w] := by
  unfold bitT
  simp [List.getD, hv, hw]

theorem FromTable_eq (t : List (List Bool)) (ht : ∀ l ∈ t, l.length = t.length) (hn : t.length ≤ 4294967296) : d_sparseref12q_FromTable (t, ()) = some ((fromT t, ()), ()) := by
  rw [← Ok.eq_iff]
  unfold d_sparseref12q_FromTable
  have hlim : lim = 4294967296 := rfl
  simp only [Ok.bind_iff]
  refine Ok.mono (P := fun q => q.2.1.1 = fromT t) ?_ ?_
  · refine Ok.for (i0 := 0) t.length (fun v s => s.2.1.1 = (List.range v).map fun v => lineT t v t.length) rfl rfl (Nat.zero_le _) ?_ ?_
    · rintro v ⟨s, g, _⟩ _ hv hg
      simp only at hg
      simp only [Ok.bif_iff, Ok.bind_iff, Ok.some_iff]
      refine ⟨fun _ => ?_, fun hf => by simp at hf; omega⟩
      refine Ok.mono (P := fun q => q.2.1 = g ∧ q.2.2.1 = lineT t v t.length) ?_ ?_
      · refine Ok.for (i0 := 0) t.length (fun w q => q.2.1 = g ∧ q.2.2.1 = lineT t v w) rfl ⟨rfl, rfl⟩ (Nat.zero_le _) ?_ ?_
        · rintro w ⟨s', g', l, _⟩ _ hw ⟨hg', hl⟩
          simp only at hl hg'
          subst hg'
          have hbv := ht _ (List.getElem_mem hv)
          have hbw := ht _ (List.getElem_mem hw)
          simp only [Ok.bif_iff (b := decide _), Ok.bind_iff (x := Option.bind _ _)]
          refine ⟨fun _ => ?_, fun hf => by simp at hf; omega⟩
          rw [Ok.bind_iff]
          refine Ok.mono (P := fun q => q = ((v != w && (bitT t v w || bitT t w v)), s', g', l, ())) ?_ ?_
          · simp only [Ok.bif_iff, Ok.bind_iff, Ok.some_iff, Ok.getN_iff]
            rw [bitT_get hv (by omega), bitT_get hw (by omega)]
            refine ⟨fun h => ⟨hv, by omega, fun h2 => ⟨hw, by omega, ?_⟩, fun h2 => ?_⟩, fun h => ?_⟩
            · have h : v ≠ w := by simp at h; omega
              have h2 : t[v][w] = false := by simpa using h2
              simp [h, h2]
            · have h : v ≠ w := by simp at h; omega
              have h2 : t[v][w] = true := by simpa using h2
              simp [h, h2]
            · have h : v = w := by simp at h; omega
              simp [h]
          · rintro q rfl
            have hll := lineT_length t v w
            simp only [Ok.bif_iff, Ok.bind_iff, Ok.some_iff, Ok.limO_iff]
            refine ⟨fun h => ⟨by rw [hl]; simp; omega, wrap_succ (by omega), trivial, ?_⟩, fun h => ⟨wrap_succ (by omega), trivial, ?_⟩⟩
            · rw [lineT_succ, if_pos h, hl]
            · rw [lineT_succ, if_neg (by rw [h]; simp), hl, List.append_nil]
        · rintro ⟨s', g', l, _⟩ ⟨hg', hl⟩
          simp only at hl hg'
          subst hg'
          simp only [Ok.bif_iff, Ok.some_iff]
          exact ⟨fun hf => by simp at hf, fun _ => ⟨trivial, hl⟩⟩
      · rintro ⟨s', g', l, _⟩ ⟨hg', hl⟩
        simp only at hl hg'
        subst hg'
        simp only [Ok.bind_iff, Ok.some_iff, Ok.limO_iff]
        refine ⟨by rw [hg]; simp; omega, wrap_succ (by omega), ?_⟩
        rw [hg, hl, List.range_succ, List.map_append]; rfl
    · rintro ⟨s, g, _⟩ hg
      simp only at hg
      simp only [Ok.bif_iff, Ok.some_iff]
      exact ⟨fun hf => by simp at hf, fun _ => hg⟩
  · rintro ⟨s, ⟨g, _⟩, _⟩ hg
    simp only at hg
    simp only [Ok.some_iff]
    rw [hg]

theorem mem_lineT {t : List (List Bool)} {v k w : Nat} : (w : Int) ∈ lineT t v k ↔ w < k ∧ v ≠ w ∧ (bitT t v w || bitT t w v) = true := by
  unfold lineT
  simp only [List.mem_map, List.mem_filter, List.mem_range, Bool.and_eq_true, bne_iff_ne]
  constructor
  · rintro ⟨a, ⟨h1, h2⟩, h3⟩
    have : a = w := by omega
    subst this
    exact ⟨h1, h2⟩
  · exact fun ⟨h1, h2⟩ => ⟨w, ⟨h1, h2⟩, rfl⟩

theorem fromT_valid (t : List (List Bool)) : Valid (fromT t) := by
  have hl : (fromT t).length = t.length := by simp [fromT]
  have hg : ∀ v, (h : v < (fromT t).length) → (fromT t)[v] = lineT t v t.length := fun v h => by simp [fromT]
  refine ⟨fun v h => ?_, fun v h => ?_, fun v h w hw hm => ?_⟩
  · rw [hg v h, hl]
    refine ⟨sorted_filter _ _, fun x hx => ?_⟩
    unfold lineT at hx
    simp only [List.mem_map, List.mem_filter, List.mem_range] at hx
    obtain ⟨a, ⟨h1, _⟩, rfl⟩ := hx
    omega
  · rw [hg v h, mem_lineT]
    exact fun hh => hh.2.1 rfl
  · rw [hg v h, mem_lineT] at hm
    rw [hg w hw, mem_lineT]
    exact ⟨by omega, hm.2.1.symm, by rw [Bool.or_comm]; exact hm.2.2⟩

theorem fromT_length (t : List (List Bool)) : (fromT t).length = t.length := by simp [fromT]
theorem fromT_lines (t : List (List Bool)) : ∀ l ∈ fromT t, l.length ≤ t.length := by
  intro l hl
  unfold fromT at hl
  simp only [List.mem_map, List.mem_range] at hl
  obtain ⟨v, _, rfl⟩ := hl
  exact lineT_length _ _ _

/-- A graph made from numbers is a proper one of n vertices. -/
theorem Graph_ok (n : Nat) (l : List Int) (hn : n ≤ 200) (hl : l.length < 4611686018427387904) :
    Ok (d_sparsemake_Graph ((n : Int), l, ())) (fun r => r.1.1.length = n ∧ Valid r.1.1 ∧ ∀ x ∈ r.1.1, x.length ≤ n) := by
  unfold d_sparsemake_Graph
  have hlim : lim = 4294967296 := rfl
  simp only [Ok.bind_iff]
  refine Ok.mono (P := fun q => q.2.1 = List.replicate n (List.replicate n false)) ?_ ?_
  · refine Ok.for (i0 := 0) n (fun i s => s.2.1 = List.replicate i (List.replicate n false)) rfl rfl (Nat.zero_le _) ?_ ?_
    · rintro i ⟨s, t, _⟩ _ hi ht
      simp only at ht
      simp only [Ok.bif_iff, Ok.bind_iff, Ok.some_iff, Ok.madeO_iff, Ok.limO_iff, Int.toNat_natCast]
      refine ⟨fun _ => ⟨⟨by omega, by omega, by omega⟩, by rw [ht]; simp; omega, wrap_succ (by omega), ?_⟩, fun hf => by simp at hf; omega⟩
      rw [ht, List.replicate_succ']
    · rintro ⟨s, t, _⟩ ht
      simp only [Ok.bif_iff, Ok.some_iff]
      exact ⟨fun hf => by simp at hf, fun _ => ht⟩
  · rintro ⟨s, t, _⟩ ht
    simp only at ht
    subst ht
    simp only
    refine Ok.mono (P := fun q => q.2.1.length = n ∧ ∀ x ∈ q.2.1, x.length = n) ?_ ?_
    · refine Ok.loop (fun s => ∃ i : Nat, s.1 = (i : Int) ∧ i ≤ l.length + 1 ∧ s.2.2.1.length = n ∧ ∀ x ∈ s.2.2.1, x.length = n) (fun s => l.length + 1 - s.1.toNat) ⟨0, rfl, by omega, by simp, fun x hx => by rw [List.eq_of_mem_replicate hx]; simp⟩ ?_
      rintro ⟨i', s', t, _⟩ ⟨i, rfl, hi, h1, h2⟩
      simp only at h1 h2
      simp only [Ok.bind_iff, Ok.bif_iff, Ok.some_iff]
      have e1 : IntKind.i64.wrap ((i : Int) + 1) = ((i + 1 : Nat) : Int) := wrap_succ (by omega)
      have e2 : IntKind.i64.wrap ((i : Int) + 2) = ((i + 2 : Nat) : Int) := by rw [wrap64 (by omega) (by omega)]; omega
      rw [e1, e2]
      refine ⟨fun hlt => ⟨fun hpos => ?_, fun _ => ⟨h1, h2⟩⟩, fun _ => ⟨h1, h2⟩⟩
      have hlt : i + 1 < l.length := by simp at hlt; omega
      have hpos : 0 < n := by simpa using hpos
      have hp1 := placeV_lt l[i] n (by omega)
      have hp2 := placeV_lt l[i + 1] n (by omega)
      simp only [Ok.bind_iff, Ok.some_iff, Ok.getN_iff, Place_eq _ (n : Int) (by omega) (by omega), Ok.idxN_iff, Ok.atO_iff, Ok.map_iff]
      refine ⟨by omega, ⟨hp1.1, by omega⟩, hlt, by omega, ⟨hp2.1, ?_⟩, by omega, ?_, ⟨i + 2, rfl, by omega, by simpa using h1, fun x hx => ?_⟩, by omega⟩
      · have := h2 _ (List.getElem_mem (show (placeV l[i] n).toNat < t.length by omega)); omega
      · have := h2 _ (List.getElem_mem (show (placeV l[i] n).toNat < t.length by omega)); omega
      · rcases List.mem_or_eq_of_mem_set hx with hx | hx
        · exact h2 x hx
        · rw [hx, List.length_set]
          exact h2 _ (List.getElem_mem _)
    · rintro ⟨s', t, _⟩ ⟨h1, h2⟩
      simp only at h1 h2
      simp only [FromTable_eq t (fun l hl => by rw [h2 l hl, h1]) (by omega), Ok.some_iff]
      exact ⟨by rw [fromT_length, h1], fromT_valid t, fun x hx => by rw [← h1]; exact fromT_lines t x hx⟩
end Go.Fw
