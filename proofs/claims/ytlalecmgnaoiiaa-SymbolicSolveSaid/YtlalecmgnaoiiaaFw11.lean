/-
  The framework, part 11: append.
-/
import Derived.Test.YtlalecmgnaoiiaaFw10
namespace Go.Fw

/-- A slice value whose elements are known, with the blocks that they own. -/
def Elems (M : Md → Nat → Prop) (w : World) (t : Ty) (ad : Option Addr) (ys : List t.den) (fys : List (List Nat)) : Prop :=
  fys.length = ys.length ∧ (ys = [] ∨ ∃ b o, ad = some ⟨b, o, none⟩ ∧ ∀ (i : Nat) (y : t.den) (f : List Nat), ys[i]? = some y → fys[i]? = some f → ∃ ds, ds.length = t.size ∧ At w b (o + i * t.size) ds ∧ Rep M w t ds y f)

theorem Elems.slc {M : Md → Nat → Prop} {w : World} {m : Md} {t : Ty} {ad : Option Addr} {ys : List t.den} {n cap : Nat} (h : Rep M w (.slc m t) [.slice ad n cap] ys []) : n = ys.length ∧ Elems M w t ad ys (List.replicate ys.length []) := by
  obtain ⟨_, a, c, e, _, _, h⟩ := h
  simp only [List.cons.injEq, Value.slice.injEq, and_true] at e
  obtain ⟨rfl, rfl, rfl⟩ := e
  refine ⟨rfl, by simp, h.imp id ?_⟩
  rintro ⟨b, o, ha, _, hx⟩
  refine ⟨b, o, ha, fun i y f hy hf => ?_⟩
  have : i < ys.length := (List.getElem?_eq_some_iff.1 hy).1
  rw [List.getElem?_replicate, if_pos this] at hf
  obtain rfl := Option.some.inj hf
  exact hx i y hy

theorem Elems.osl {M : Md → Nat → Prop} {w : World} {t : Ty} {ad : Option Addr} {ys : List t.den} {n cap : Nat} {f : List Nat} (h : Rep M w (.osl t) [.slice ad n cap] ys f) :
    n = ys.length ∧ n ≤ cap ∧ ∃ fys, Elems M w t ad ys fys ∧ (∀ c ∈ fys.flatten, c ∈ f) ∧ (f.Nodup → fys.flatten.Nodup) ∧
      ((ad = none ∧ cap = 0 ∧ f = []) ∨ ∃ b o, ad = some ⟨b, o, none⟩ ∧ f = b :: fys.flatten ∧ Fr w b o (o + cap * t.size)) := by
  obtain ⟨a, c, e, h⟩ := h
  simp only [List.cons.injEq, Value.slice.injEq, and_true] at e
  obtain ⟨rfl, rfl, rfl⟩ := e
  rcases h with ⟨rfl, rfl, rfl, rfl⟩ | ⟨b, o, fps, rfl, rfl, q1, q2, q3, q4⟩
  · exact ⟨rfl, Nat.le_refl _, [], ⟨rfl, .inl rfl⟩, by simp, by simp, .inl ⟨rfl, rfl, rfl⟩⟩
  · refine ⟨rfl, q2, fps, ⟨q1, .inr ⟨b, o, rfl, q4⟩⟩, fun c hc => List.mem_cons_of_mem _ hc, fun h => (List.nodup_cons.1 h).2, .inr ⟨b, o, rfl, rfl, q3⟩⟩

/-- The elements' cells in one row. -/
theorem Elems.cells {M : Md → Nat → Prop} {w : World} {t : Ty} {ad : Option Addr} {ys : List t.den} {fys : List (List Nat)} (h : Elems M w t ad ys fys) (hp : 0 < t.size) :
    ∃ news : List Value, news.length = ys.length * t.size ∧ (∀ v ∈ news, v.oneCell' = true) ∧ (∀ b, ad = some b → ys ≠ [] → ∀ (j : Nat) v, news[j]? = some v → w.cell? (b.add j) = some v) ∧
      ∀ (i : Nat) (y : t.den) (f : List Nat), ys[i]? = some y → fys[i]? = some f → Rep M w t ((news.drop (i * t.size)).take t.size) y f := by
  obtain ⟨hl, h⟩ := h
  rcases h with rfl | ⟨b, o, rfl, h⟩
  · exact ⟨[], by simp, by simp, fun _ _ h => absurd rfl h, by simp⟩
  · have hcell : ∀ k, k < ys.length * t.size → ∃ v, w.cell? ⟨b, o + k, none⟩ = some v ∧ v.oneCell' = true := by
      intro k hk
      have hi : k / t.size < ys.length := (Nat.div_lt_iff_lt_mul hp).2 hk
      obtain ⟨ds, d1, d2, d3⟩ := h (k / t.size) ys[k / t.size] (fys[k / t.size]'(by omega)) (by simp) (by simp)
      have hm := Nat.mod_lt k hp
      have : ds[k % t.size]? = some (ds[k % t.size]'(by omega)) := List.getElem?_eq_getElem _
      refine ⟨_, ?_, d3.one _ (List.getElem_mem (by omega : k % t.size < ds.length))⟩
      have := d2 _ _ this
      rwa [show o + k / t.size * t.size + k % t.size = o + k by have := Nat.div_add_mod k t.size; rw [Nat.mul_comm] at this; omega] at this
    have hget : ∀ k, ((List.range (ys.length * t.size)).map fun k => (w.cell? ⟨b, o + k, none⟩).getD undef)[k]? = if k < ys.length * t.size then w.cell? ⟨b, o + k, none⟩ else none := by
      intro k
      rw [List.getElem?_map]
      by_cases hk : k < ys.length * t.size
      · rw [if_pos hk, List.getElem?_range hk]
        obtain ⟨v, hv, _⟩ := hcell k hk
        simp [hv]
      · rw [if_neg hk, List.getElem?_eq_none (by simp; omega)]; rfl
    refine ⟨(List.range (ys.length * t.size)).map fun k => (w.cell? ⟨b, o + k, none⟩).getD undef, by simp, ?_, ?_, ?_⟩
    · intro v hv
      obtain ⟨k, hk, rfl⟩ := List.mem_map.1 hv
      obtain ⟨u, hu, h1⟩ := hcell k (List.mem_range.1 hk)
      simpa [hu] using h1
    · intro b' hb' _ j v hj
      cases hb'
      rw [hget] at hj
      split at hj
      · rw [Addr.add_lit]; exact hj
      · cases hj
    · intro i y f hy hf
      obtain ⟨ds, d1, d2, d3⟩ := h i y f hy hf
      have hi : i < ys.length := (List.getElem?_eq_some_iff.1 hy).1
      have : (((List.range (ys.length * t.size)).map fun k => (w.cell? ⟨b, o + k, none⟩).getD undef).drop (i * t.size)).take t.size = ds := by
        apply List.ext_getElem?
        intro j
        rcases Nat.lt_or_ge j t.size with hj | hj
        · rw [List.getElem?_take_of_lt hj, List.getElem?_drop, hget]
          have h1 : (i + 1) * t.size ≤ ys.length * t.size := Nat.mul_le_mul_right _ hi
          rw [Nat.add_mul, Nat.one_mul] at h1
          rw [if_pos (by omega)]
          have : ds[j]? = some (ds[j]'(by omega)) := List.getElem?_eq_getElem _
          rw [this, ← Nat.add_assoc]
          exact d2 _ _ this
        · rw [List.getElem?_eq_none (by simp; omega), List.getElem?_eq_none (by omega)]
      rw [this]
      exact d3

section
variable {P : Program}

/-- What append does: in place where there is room, else in a new block. -/
theorem append_run {w : World} {T ty S : TypeId} {t : Ty} {i : TypeInfo} (hT : P.underlying T = some (.slice S)) (hS : TyF P t S) (hi : P.info? S = some i) (hsz : t.size ≤ 1300) {ad yd : Option Addr} {n cap m c : Nat} {olds news : List Value}
    (ho : olds.length = n * t.size) (hoc : ∀ b, ad = some b → ∀ (j : Nat) (v : Value), olds[j]? = some v → w.cell? (b.add j) = some v) (hspot : ∀ b, ad = some b → b.spot = none) (hcap : n ≤ cap) (hnil : ad = none → cap = 0)
    (hn : news.length = m * t.size) (h1 : ∀ v ∈ news, v.oneCell' = true) (hnc : ∀ b, yd = some b → 0 < m → ∀ (j : Nat) (v : Value), news[j]? = some v → w.cell? (b.add j) = some v) (hyn : yd = none → m = 0)
    (hfr : ∀ b, ad = some b → Fr w b.block b.off (b.off + cap * t.size)) (hlim : n + m ≤ lim) :
    ∃ v' w', (Builtin.append_ #[T, T] ty #[.slice ad n cap, .slice yd m c]).run P w = .ok v' w' ∧
      ((n + m ≤ cap ∧ v' = .slice ad (n + m) cap ∧ ((ad = none ∧ w' = w) ∨ ∃ b, ad = some b ∧ w' = w.setCells b.block (b.off + n * t.size) news)) ∨
        ∃ (cap' : Nat) (cells : Array Value), cap < n + m ∧ n + m ≤ cap' ∧ v' = .slice (some ⟨w.heap.size, 0, none⟩) (n + m) cap' ∧ Grew w w' ∧ w'.heap[w.heap.size]? = some (.cells cells S (0, 0)) ∧ w'.heap.size = w.heap.size + 1 ∧ cap' * t.size ≤ cells.size ∧
          ∀ (j : Nat) (v : Value), (olds ++ news)[j]? = some v → cells[j]? = some v) := by
  obtain ⟨i', _, q5, _⟩ := hS.info
  have e0 := q5.info
  rw [hi] at e0; cases e0
  have hpos := hS.pos
  by_cases hroom : n + m ≤ cap
  · by_cases hm : m = 0
    · subst hm
      obtain rfl : news = [] := List.eq_nil_of_length_eq_zero (by simpa using hn)
      have hfc : (Builtin.firstCells t.size 0 (.slice yd 0 c)).run P w = .ok #[] w := by
        cases yd with
        | none => rfl
        | some b => simp [Builtin.firstCells, loadCells, loadCellsFrom]
      refine ⟨.slice ad n cap, w, ?_, .inl ⟨hroom, rfl, ?_⟩⟩
      · cases ad with
        | none => simp [Builtin.append_, run_underlying hT, sizeOf, typeInfo, hi, Builtin.lenOf, q5.size, hcap, hfc]
        | some b => simp [Builtin.append_, run_underlying hT, sizeOf, typeInfo, hi, Builtin.lenOf, q5.size, hcap, hfc, storeCells]
      · cases ad with
        | none => exact .inl ⟨rfl, rfl⟩
        | some b => exact .inr ⟨b, rfl, rfl⟩
    · cases ad with
      | none => have := hnil rfl; omega
      | some b =>
        cases yd with
        | none => exact absurd (hyn rfl) hm
        | some y =>
          obtain ⟨bb, bo, bs⟩ := b
          obtain rfl : bs = none := hspot _ rfl
          have hmul : (n + m) * t.size ≤ cap * t.size := Nat.mul_le_mul_right _ hroom
          rw [Nat.add_mul] at hmul
          have hr := run_append_room_cells (P := P) w T ty S i hT hi bb bo n cap y m c news (by rw [q5.size]; exact hn) (hnc y rfl (by omega)) h1 hroom
            (fun j hj => (hfr _ rfl _ (by rw [q5.size]; simp only; omega) (by rw [q5.size]; simp only; omega)).1)
            (fun j hj => (hfr _ rfl _ (by rw [q5.size]; simp only; omega) (by rw [q5.size]; simp only; omega)).2)
          rw [q5.size] at hr
          exact ⟨_, _, hr, .inl ⟨hroom, rfl, .inr ⟨_, rfl, rfl⟩⟩⟩
  · obtain ⟨zv, hzs, hz⟩ := hS.hasZero
    have hz := hz i hi
    have hm : 0 < m := by omega
    cases yd with
    | none => have := hyn rfl; omega
    | some y =>
      have hbytes : (n + m) * i.bytes ≤ 140737488355328 := by
        have h1 : (n + m) * i.bytes ≤ lim * 31200 := Nat.mul_le_mul hlim (by have := q5.bytes; omega)
        unfold lim at h1; omega
      have hml : ((n + m : Nat) : Int) ≤ 9223372036854775807 := by unfold lim at hlim; omega
      have fin : ∀ (old : Nat), let cap' := grownCap w (n + m) old S
          n + m ≤ cap' ∧ Grew w (w.drew.alloc (.cells (olds.toArray ++ news.toArray ++ Builtin.zeroCells zv.cells (cap' - (n + m))) S)) ∧
          (w.drew.alloc (.cells (olds.toArray ++ news.toArray ++ Builtin.zeroCells zv.cells (cap' - (n + m))) S)).heap[w.heap.size]? = some (.cells (olds.toArray ++ news.toArray ++ Builtin.zeroCells zv.cells (cap' - (n + m))) S (0, 0)) ∧
          cap' * t.size ≤ (olds.toArray ++ news.toArray ++ Builtin.zeroCells zv.cells (cap' - (n + m))).size ∧
          ∀ (j : Nat) (v : Value), (olds ++ news)[j]? = some v → (olds.toArray ++ news.toArray ++ Builtin.zeroCells zv.cells (cap' - (n + m)))[j]? = some v := by
        intro old cap'
        have hge : n + m ≤ cap' := grownCap_ge w (n + m) old S
        refine ⟨hge, (Grew.refl w).drew.trans (Grew.alloc _ _), heap_alloc_new w.drew _, ?_, ?_⟩
        · simp only [Array.size_append, List.size_toArray, size_zeroCells, hzs, ho, hn, ← Nat.add_mul]
          refine Nat.mul_le_mul_right _ ?_
          omega
        · intro j v hj
          have hj' : j < (olds ++ news).length := (List.getElem?_eq_some_iff.1 hj).1
          rw [Array.getElem?_append, if_pos (by simpa using hj')]
          simpa using hj
      cases ad with
      | some b =>
        have hr := run_append_grow (P := P) w T ty S i zv hT hi hz b n cap olds (by rw [q5.size]; exact ho) (hoc b rfl) y m c news (by rw [q5.size]; exact hn) (hnc y rfl hm) (by omega) hml (growslice_fits (by omega) hbytes)
        obtain ⟨f1, f2, f3, f4, f5⟩ := fin cap
        exact ⟨_, _, hr, .inr ⟨_, _, by omega, f1, rfl, f2, f3, by simp, f4, f5⟩⟩
      | none =>
        have hc0 := hnil rfl
        have hn0 : n = 0 := by omega
        subst hc0; subst hn0
        obtain rfl : olds = [] := List.eq_nil_of_length_eq_zero (by simpa using ho)
        simp only [Nat.zero_add] at hml hbytes fin
        have hr := run_append_nil (P := P) w T ty S i zv hT hi hz y m c news (by rw [q5.size]; exact hn) (hnc y rfl hm) hm hml (by omega)
        obtain ⟨f1, f2, f3, f4, f5⟩ := fin 0
        simp only [List.nil_append, Array.empty_append] at f1 f2 f3 f4 f5
        refine ⟨_, _, hr, .inr ⟨_, _, by omega, by rw [Nat.zero_add]; exact f1, by rw [Nat.zero_add], f2, f3, by simp, f4, f5⟩⟩
end
end Go.Fw
