/-
  Parts of the proof: Fw1, Fw2, Fw3, Fw4, Fw5, Fw6, Fw7, Fw8, Fw40, Fw41, Fw9: the framework (Fw), pure forms (Dn), plain laws (Pl, Th), calls of functions (Ok).
-/
import Derived.Laws.AppendOwn
import Derived.ArgAppend
import Derived.Laws.IdiomCopy
import Derived.Laws.Cells
import Derived.Laws.MakeOwn
import Derived.Calls
import Derived.Orders
import Derived.Laws.Entries
import Derived.Maps.RangeRun

set_option linter.all false
section
namespace Go.Fw
inductive Md where
 | imm
 | bor
 deriving DecidableEq
inductive Ty where
 | int (k : IntKind)
 | bool
 | str
 | slc (m : Md) (t : Ty)
 | ptr (m : Md) (t : Ty)
 | osl (t : Ty)
 | optr (t : Ty)
 | st (t : Ty)
 | pr (a b : Ty)
 | nil
 | blk
 | mp (t : Ty)
 | vm (m : Md) (t : Ty)
 deriving DecidableEq
def Ty.size : Ty → Nat
 | .pr a b => a.size + b.size
 | .st t => t.size
 | .nil | .blk => 0
 | _ => 1
@[reducible] def Ty.den : Ty → Type
  | .int _ => Int
  | .bool => Bool
  | .str => ByteArray
  | .slc _ t => List t.den
  | .ptr _ t => Option t.den
  | .osl t => List t.den
  | .optr t => t.den
  | .st t => t.den
  | .pr a b => a.den × b.den
  | .nil => Unit
  | .blk => Unit
  | .mp t => Option (List (Int × t.den) × Nat)
  | .vm _ t => Option (List (Int × t.den) × Nat)
def MapC {α : Type} (L : List (Int × Nat × α)) (l : List (Int × α)) (c : Nat) : Prop :=
 l.Pairwise (fun a b => a.1 < b.1) ∧ (L.map fun q => (q.1, q.2.2)).Perm l ∧ (L.map fun q => q.2.1).Nodup ∧ ∀ q ∈ L, q.2.1 < c
def regV : Ty → List Value → Value
 | .st _, cs => .agg cs.toArray
 | _, cs => cs.headD undef
def At (w : World) (b o : Nat) (cs : List Value) : Prop := ∀ j v, cs[j]? = some v → w.cell? ⟨b, o + j, none⟩ = some v
def Fr (w : World) (b lo hi : Nat) : Prop := ∀ j, lo ≤ j → j < hi → (w.cell? ⟨b, j, none⟩).isSome = true ∧ w.frozen? ⟨b, j, none⟩ = false
def mapOf (w : World) (b : Nat) : Option (Array MapEntry × Nat) := match w.heap[b]? with
 | some (.map es c) => some (es, c)
 | _ => none
def Sm (w w' : World) (b : Nat) : Prop := (∀ j, w'.cell? ⟨b, j, none⟩ = w.cell? ⟨b, j, none⟩ ∧ w'.frozen? ⟨b, j, none⟩ = w.frozen? ⟨b, j, none⟩) ∧ mapOf w' b = mapOf w b
theorem Sm.refl (w : World) (b : Nat) : Sm w w b := ⟨fun _ => ⟨rfl, rfl⟩, rfl⟩
theorem Sm.of_heap {w w' : World} {b : Nat} (h : w'.heap[b]? = w.heap[b]?) : Sm w w' b :=
 ⟨fun j => ⟨World.cell?_of_block (a := ⟨b, j, none⟩) h, World.frozen?_of_block (a := ⟨b, j, none⟩) h⟩, by unfold mapOf; rw [h]⟩
def Evo (w w' : World) (b : Nat) : Prop := ∀ es c, mapOf w b = some (es, c) → ∃ es' c', mapOf w' b = some (es', c') ∧ c ≤ c' ∧ ∀ (i : Nat) (e : MapEntry), es'[i]? = some e → e.born < c → ∃ (j : Nat) (e0 : MapEntry), es[j]? = some e0 ∧ e0.key = e.key ∧ e0.born = e.born
theorem Evo.of_eq {w w' : World} {b : Nat} (h : mapOf w' b = mapOf w b) : Evo w w' b :=
 fun es c hm => ⟨es, c, h.trans hm, Nat.le_refl _, fun i e he _ => ⟨i, e, he, rfl, rfl⟩⟩
theorem Evo.refl (w : World) (b : Nat) : Evo w w b := .of_eq rfl
theorem Evo.of_heap {w w' : World} {b : Nat} (h : w'.heap[b]? = w.heap[b]?) : Evo w w' b := .of_eq (Sm.of_heap h).2
theorem Evo.trans {w w' w'' : World} {b : Nat} (h : Evo w w' b) (h' : Evo w' w'' b) : Evo w w'' b := fun es c hm => by
 obtain ⟨es', c', h1, h2, h3⟩ := h es c hm
 obtain ⟨es2, c2, k1, k2, k3⟩ := h' es' c' h1
 refine ⟨es2, c2, k1, Nat.le_trans h2 k2, fun i e he hc => ?_⟩
 obtain ⟨j, e0, q1, q2, q3⟩ := k3 i e he (by omega)
 obtain ⟨j', e1, r1, r2, r3⟩ := h3 j e0 q1 (by omega)
 exact ⟨j', e1, r1, r2.trans q2, r3.trans q3⟩
theorem At.sm {w w' : World} {b o : Nat} {cs : List Value} (h : At w b o cs) (hs : Sm w w' b) : At w' b o cs :=
 fun j v hj => by rw [(hs.1 _).1]; exact h j v hj
theorem Fr.sm {w w' : World} {b lo hi : Nat} (h : Fr w b lo hi) (hs : Sm w w' b) : Fr w' b lo hi :=
 fun j h1 h2 => by rw [(hs.1 _).1, (hs.1 _).2]; exact h j h1 h2
def Rep (M : Md → Nat → Prop) (w : World) : (τ : Ty) → List Value → τ.den → List Nat → Prop
 | .int k, cs, n, fp => fp = [] ∧ cs = [.int k n]
 | .bool, cs, b, fp => fp = [] ∧ cs = [.bool b]
 | .str, cs, s, fp => fp = [] ∧ cs = [.string s]
 | .slc m t, cs, xs, fp => fp = [] ∧ ∃ a cap, cs = [.slice a xs.length cap] ∧ xs.length ≤ cap ∧ (a = none → cap = 0) ∧
    (xs = [] ∨ ∃ b o, a = some ⟨b, o, none⟩ ∧ M m b ∧ ∀ i x, xs[i]? = some x → ∃ ds, ds.length = t.size ∧ At w b (o + i * t.size) ds ∧ Rep M w t ds x [])
 | .ptr m t, cs, x, fp => fp = [] ∧ match x with
    | none => cs = [.pointer none]
    | some y => ∃ b o ds, cs = [.pointer (some ⟨b, o, none⟩)] ∧ M m b ∧ ds.length = t.size ∧ At w b o ds ∧ Rep M w t ds y []
 | .osl t, cs, xs, fp => ∃ a cap, cs = [.slice a xs.length cap] ∧
    ((a = none ∧ xs = [] ∧ cap = 0 ∧ fp = []) ∨ ∃ (b o : Nat) (fps : List (List Nat)), a = some ⟨b, o, none⟩ ∧ fp = b :: fps.flatten ∧ fps.length = xs.length ∧ xs.length ≤ cap ∧
      Fr w b o (o + cap * t.size) ∧ ∀ i x f, xs[i]? = some x → fps[i]? = some f → ∃ ds, ds.length = t.size ∧ At w b (o + i * t.size) ds ∧ Rep M w t ds x f)
 | .optr t, cs, y, fp => ∃ b o f ds, cs = [.pointer (some ⟨b, o, none⟩)] ∧ fp = b :: f ∧ ds.length = t.size ∧ At w b o ds ∧ Fr w b o (o + t.size) ∧ Rep M w t ds y f
 | .st t, cs, x, fp => Rep M w t cs x fp
 | .pr a b, cs, x, fp => ∃ f1 f2, fp = f1 ++ f2 ∧ Rep M w a (cs.take a.size) x.1 f1 ∧ Rep M w b (cs.drop a.size) x.2 f2
 | .nil, cs, _, fp => fp = [] ∧ cs = []
 | .blk, cs, _, _ => cs = []
 | .mp t, cs, x, fp => match x with
    | none => fp = [] ∧ cs = [.map none]
    | some (l, c) => ∃ (b : Nat) (es : Array MapEntry) (L : List (Int × Nat × t.den)), cs = [.map (some b)] ∧ fp = [b] ∧ MapC L l c ∧ mapOf w b = some (es, c) ∧ es.size = L.length ∧ ∀ (i : Nat) (q : Int × Nat × t.den), L[i]? = some q → ∃ ds : List Value, ds.length = t.size ∧ es[i]? = some (MapEntry.mk (.int .i64 q.1) (regV t ds) q.2.1) ∧ Rep M w t ds q.2.2 []
 | .vm m t, cs, x, fp => match x with
    | none => fp = [] ∧ cs = [.map none]
    | some (l, c) => ∃ (b : Nat) (es : Array MapEntry) (L : List (Int × Nat × t.den)), cs = [.map (some b)] ∧ fp = [] ∧ MapC L l c ∧ M m b ∧ mapOf w b = some (es, c) ∧ es.size = L.length ∧ ∀ (i : Nat) (q : Int × Nat × t.den), L[i]? = some q → ∃ ds : List Value, ds.length = t.size ∧ es[i]? = some (MapEntry.mk (.int .i64 q.1) (regV t ds) q.2.1) ∧ Rep M w t ds q.2.2 []
theorem Rep.len {M : Md → Nat → Prop} {w : World} : ∀ {τ : Ty} {cs : List Value} {x : τ.den} {fp : List Nat}, Rep M w τ cs x fp → cs.length = τ.size
 | .int _, _, _, _, h => by rw [h.2]; rfl
 | .bool, _, _, _, h => by rw [h.2]; rfl
 | .str, _, _, _, h => by rw [h.2]; rfl
 | .slc _ _, _, _, _, h => by obtain ⟨_, a, cap, h, _⟩ := h; rw [h]; rfl
 | .ptr _ _, _, x, _, h => by
    obtain ⟨_, h⟩ := h
    cases x with
    | none => simp only at h; rw [h]; rfl
    | some y => obtain ⟨b, o, ds, h, _⟩ := h; rw [h]; rfl
 | .osl _, _, _, _, h => by obtain ⟨a, cap, h, _⟩ := h; rw [h]; rfl
 | .optr _, _, _, _, h => by obtain ⟨a, cap, f, ds, h, _⟩ := h; rw [h]; rfl
 | .st t, _, _, _, h => Rep.len (τ := t) h
 | .pr a b, cs, _, _, h => by
    obtain ⟨f1, f2, _, h1, h2⟩ := h
    have l1 := Rep.len (τ := a) h1
    have l2 := Rep.len (τ := b) h2
    simp only [List.length_take, List.length_drop] at l1 l2
    show cs.length = a.size + b.size
    omega
 | .nil, _, _, _, h => by rw [h.2]; rfl
 | .blk, _, _, _, h => by rw [show _ = [] from h]; rfl
 | .mp t, _, x, _, h => by
    cases x with
    | none => rw [h.2]; rfl
    | some q => obtain ⟨b, es, L, h, _⟩ := h; rw [h]; rfl
 | .vm m t, _, x, _, h => by
    cases x with
    | none => rw [h.2]; rfl
    | some q => obtain ⟨b, es, L, h, _⟩ := h; rw [h]; rfl
theorem Rep.one {M : Md → Nat → Prop} {w : World} : ∀ {τ : Ty} {cs : List Value} {x : τ.den} {fp : List Nat}, Rep M w τ cs x fp → ∀ v ∈ cs, v.oneCell' = true
 | .int _, _, _, _, h => by rw [h.2]; simp [Value.oneCell']
 | .bool, _, _, _, h => by rw [h.2]; simp [Value.oneCell']
 | .str, _, _, _, h => by rw [h.2]; simp [Value.oneCell']
 | .slc _ _, _, _, _, h => by obtain ⟨_, a, cap, h, _⟩ := h; rw [h]; simp [Value.oneCell']
 | .ptr _ _, _, x, _, h => by
    obtain ⟨_, h⟩ := h
    cases x with
    | none => simp only at h; rw [h]; simp [Value.oneCell']
    | some y => obtain ⟨b, o, ds, h, _⟩ := h; rw [h]; simp [Value.oneCell']
 | .osl _, _, _, _, h => by obtain ⟨a, cap, h, _⟩ := h; rw [h]; simp [Value.oneCell']
 | .optr _, _, _, _, h => by obtain ⟨a, cap, f, ds, h, _⟩ := h; rw [h]; simp [Value.oneCell']
 | .st t, _, _, _, h => Rep.one (τ := t) h
 | .pr a b, cs, _, _, h => by
    obtain ⟨f1, f2, _, h1, h2⟩ := h
    have l1 := Rep.one (τ := a) h1
    have l2 := Rep.one (τ := b) h2
    intro v hv
    rw [← List.take_append_drop a.size cs] at hv
    rcases List.mem_append.1 hv with hv | hv
    ·exact l1 v hv
    ·exact l2 v hv
 | .nil, _, _, _, h => by rw [h.2]; simp
 | .blk, _, _, _, h => by rw [show _ = [] from h]; simp
 | .mp t, _, x, _, h => by
    cases x with
    | none => rw [h.2]; simp [Value.oneCell']
    | some q => obtain ⟨b, es, L, h, _⟩ := h; rw [h]; simp [Value.oneCell']
 | .vm m t, _, x, _, h => by
    cases x with
    | none => rw [h.2]; simp [Value.oneCell']
    | some q => obtain ⟨b, es, L, h, _⟩ := h; rw [h]; simp [Value.oneCell']
theorem Rep.mono {M M' : Md → Nat → Prop} {w w' : World} (hM : ∀ m b, M m b → M' m b ∧ Sm w w' b) :
  ∀ {τ : Ty} {cs : List Value} {x : τ.den} {fp : List Nat}, Rep M w τ cs x fp → (∀ b ∈ fp, Sm w w' b) → Rep M' w' τ cs x fp
 | .int _, _, _, _, h, _ => h
 | .bool, _, _, _, h, _ => h
 | .str, _, _, _, h, _ => h
 | .slc m t, _, xs, _, h, _ => by
    obtain ⟨h0, a, cap, h1, h2, h3, h4⟩ := h
    refine ⟨h0, a, cap, h1, h2, h3, h4.imp id ?_⟩
    rintro ⟨b, o, ha, hb, hx⟩
    refine ⟨b, o, ha, (hM m b hb).1, fun i x hi => ?_⟩
    obtain ⟨ds, d1, d2, d3⟩ := hx i x hi
    exact ⟨ds, d1, d2.sm (hM m b hb).2, Rep.mono hM d3 (by simp)⟩
 | .ptr m t, _, x, _, h, _ => by
    obtain ⟨h0, h⟩ := h
    refine ⟨h0, ?_⟩
    cases x with
    | none => exact h
    | some y =>
      obtain ⟨b, o, ds, h1, h2, h3, h4, h5⟩ := h
      exact ⟨b, o, ds, h1, (hM m b h2).1, h3, h4.sm (hM m b h2).2, Rep.mono hM h5 (by simp)⟩
 | .osl t, _, xs, fp, h, hf => by
    obtain ⟨a, cap, h1, h2⟩ := h
    refine ⟨a, cap, h1, h2.imp id ?_⟩
    rintro ⟨b, o, fps, ha, hfp, hl, hc, hfr, hx⟩
    have hb : Sm w w' b := hf b (by rw [hfp]; simp)
    refine ⟨b, o, fps, ha, hfp, hl, hc, hfr.sm hb, fun i x f hi hfi => ?_⟩
    obtain ⟨ds, d1, d2, d3⟩ := hx i x f hi hfi
    refine ⟨ds, d1, d2.sm hb, Rep.mono hM d3 (fun c hc => hf c ?_)⟩
    rw [hfp]
    exact List.mem_cons_of_mem _ (List.mem_flatten.2 ⟨f, List.mem_of_getElem? hfi, hc⟩)
 | .optr t, _, _, _, h, hf => by
    obtain ⟨b, o, f, ds, h1, h2, h3, h4, h5, h6⟩ := h
    have hb : Sm w w' b := hf b (by rw [h2]; simp)
    exact ⟨b, o, f, ds, h1, h2, h3, h4.sm hb, h5.sm hb, Rep.mono hM h6 (fun c hc => hf c (by rw [h2]; exact List.mem_cons_of_mem _ hc))⟩
 | .st t, _, _, _, h, hf => Rep.mono (τ := t) hM h hf
 | .pr a b, cs, _, _, h, hf => by
    obtain ⟨f1, f2, hfp, h1, h2⟩ := h
    exact ⟨f1, f2, hfp, Rep.mono (τ := a) hM h1 (fun c hc => hf c (by rw [hfp]; exact List.mem_append_left _ hc)),
     Rep.mono (τ := b) hM h2 (fun c hc => hf c (by rw [hfp]; exact List.mem_append_right _ hc))⟩
 | .nil, _, _, _, h, _ => h
 | .blk, _, _, _, h, _ => h
 | .mp t, _, x, fp, h, hf => by
    cases x with
    | none => exact h
    | some q =>
      obtain ⟨b, es, L, h1, h2, hL, h3, h4, h5⟩ := h
      refine ⟨b, es, L, h1, h2, hL, (hf b (by rw [h2]; simp)).2.trans h3, h4, fun i q hi => ?_⟩
      obtain ⟨ds, d1, d2, d3⟩ := h5 i q hi
      exact ⟨ds, d1, d2, Rep.mono hM d3 (by simp)⟩
 | .vm m t, _, x, fp, h, hf => by
    cases x with
    | none => exact h
    | some q =>
      obtain ⟨b, es, L, h1, h2, hL, hb, h3, h4, h5⟩ := h
      refine ⟨b, es, L, h1, h2, hL, (hM m b hb).1, (hM m b hb).2.2.trans h3, h4, fun i q hi => ?_⟩
      obtain ⟨ds, d1, d2, d3⟩ := h5 i q hi
      exact ⟨ds, d1, d2, Rep.mono hM d3 (by simp)⟩
def Ty.nb : Ty → Bool
 | .blk => false
 | .slc _ t | .ptr _ t | .osl t | .optr t | .st t | .mp t | .vm _ t => t.nb
 | .pr a b => a.nb && b.nb
 | _ => true
theorem Rep.uniq {M : Md → Nat → Prop} {w : World} : ∀ {τ : Ty} {cs : List Value} {x y : τ.den} {f g : List Nat}, τ.nb = true → Rep M w τ cs x f → Rep M w τ cs y g → f = g
 | .int _, _, _, _, _, _, _, h, h' => h.1.trans h'.1.symm
 | .bool, _, _, _, _, _, _, h, h' => h.1.trans h'.1.symm
 | .str, _, _, _, _, _, _, h, h' => h.1.trans h'.1.symm
 | .slc _ _, _, _, _, _, _, _, h, h' => h.1.trans h'.1.symm
 | .ptr _ _, _, _, _, _, _, _, h, h' => h.1.trans h'.1.symm
 | .nil, _, _, _, _, _, _, h, h' => h.1.trans h'.1.symm
 | .blk, _, _, _, _, _, hb, _, _ => by cases hb
 | .vm m t, cs, x, y, f, g, _, h, h' => by
    have e : ∀ {x : (Ty.vm m t).den} {f : List Nat}, Rep M w (.vm m t) cs x f → f = [] := fun {x f} h => by
     cases x with
     | none => exact h.1
     | some q => obtain ⟨b, es, L, _, h2, _⟩ := h; exact h2
    rw [e h, e h']
 | .mp t, _, x, y, _, _, _, h, h' => by
    cases x with
    | none =>
      cases y with
      | none => exact h.1.trans h'.1.symm
      | some q' =>
        obtain ⟨b, es, L, h1, _⟩ := h'
        have := h.2.symm.trans h1
        simp at this
    | some q =>
      obtain ⟨b, es, L, h1, h2, _⟩ := h
      cases y with
      | none =>
        have := h1.symm.trans h'.2
        simp at this
      | some q' =>
        obtain ⟨b', es', L', h1', h2', _⟩ := h'
        have := h1.symm.trans h1'
        simp only [List.cons.injEq, Value.map.injEq, Option.some.injEq, and_true] at this
        rw [h2, h2', this]
 | .st t, _, _, _, _, _, hb, h, h' => Rep.uniq (τ := t) hb h h'
 | .pr a b, _, _, _, _, _, hb, h, h' => by
    simp only [Ty.nb, Bool.and_eq_true] at hb
    obtain ⟨f1, f2, rfl, h1, h2⟩ := h
    obtain ⟨g1, g2, rfl, h3, h4⟩ := h'
    rw [Rep.uniq (τ := a) hb.1 h1 h3, Rep.uniq (τ := b) hb.2 h2 h4]
 | .optr t, _, _, _, _, _, hb, h, h' => by
    obtain ⟨b, o, f, ds, h1, rfl, h3, h4, _, h6⟩ := h
    obtain ⟨b', o', f', ds', h1', rfl, h3', h4', _, h6'⟩ := h'
    rw [h1] at h1'
    simp only [List.cons.injEq, Value.pointer.injEq, Option.some.injEq, Addr.mk.injEq, and_true] at h1'
    obtain ⟨rfl, rfl⟩ := h1'
    obtain rfl : ds = ds' := by
     apply List.ext_getElem?
     intro j
     rcases Nat.lt_or_ge j ds.length with hj | hj
     ·have q1 := h4 j ds[j] (by simp [hj])
      have q2 := h4' j (ds'[j]'(by omega)) (by simp)
      rw [q1] at q2
      simp only [Option.some.injEq] at q2
      rw [List.getElem?_eq_getElem hj, List.getElem?_eq_getElem (by omega), q2]
     ·rw [List.getElem?_eq_none hj, List.getElem?_eq_none (by omega)]
    rw [Rep.uniq (τ := t) hb h6 h6']
 | .osl t, _, x, y, _, _, hb, h, h' => by
    obtain ⟨a, cap, h1, h2⟩ := h
    obtain ⟨a', cap', h1', h2'⟩ := h'
    rw [h1] at h1'
    simp only [List.cons.injEq, Value.slice.injEq, and_true] at h1'
    obtain ⟨rfl, hl, rfl⟩ := h1'
    rcases h2 with ⟨rfl, rfl, rfl, rfl⟩ | ⟨b, o, fps, rfl, rfl, q1, q2, q3, q4⟩
    ·rcases h2' with ⟨_, rfl, _, rfl⟩ | ⟨b, o, fps, h0, _⟩
     ·rfl
     ·cases h0
    ·rcases h2' with ⟨h0, _⟩ | ⟨b', o', fps', h0, rfl, q1', q2', q3', q4'⟩
     ·cases h0
     ·simp only [Option.some.injEq, Addr.mk.injEq, and_true] at h0
      obtain ⟨rfl, rfl⟩ := h0
      have : fps = fps' := by
       apply List.ext_getElem?
       intro j
       rcases Nat.lt_or_ge j x.length with hj | hj
       ·have e1 : fps[j]? = some (fps[j]'(by omega)) := List.getElem?_eq_getElem (by omega)
        have e2 : fps'[j]? = some (fps'[j]'(by omega)) := List.getElem?_eq_getElem (by omega)
        obtain ⟨ds, d1, d2, d3⟩ := q4 j x[j] _ (by simp [hj]) e1
        obtain ⟨ds', d1', d2', d3'⟩ := q4' j (y[j]'(by omega)) _ (by simp) e2
        obtain rfl : ds = ds' := by
         apply List.ext_getElem?
         intro k
         rcases Nat.lt_or_ge k ds.length with hk | hk
         ·have r1 := d2 k ds[k] (by simp [hk])
          have r2 := d2' k (ds'[k]'(by omega)) (by simp)
          rw [r1] at r2
          simp only [Option.some.injEq] at r2
          rw [List.getElem?_eq_getElem hk, List.getElem?_eq_getElem (by omega), r2]
         ·rw [List.getElem?_eq_none hk, List.getElem?_eq_none (by omega)]
        rw [e1, e2, Rep.uniq (τ := t) hb d3 d3']
       ·rw [List.getElem?_eq_none (by omega), List.getElem?_eq_none (by omega)]
      rw [this]
inductive Step where
 | idx (i : Nat)
 | deref
 | unst
 | fst
 | snd
 deriving DecidableEq
def GetP : (τ : Ty) → τ.den → List Step → (τ' : Ty) → τ'.den → Prop
 | τ, x, [], τ', y => ∃ h : τ = τ', h ▸ x = y
 | .osl t, xs, .idx i :: p, τ', y => ∃ e, xs[i]? = some e ∧ GetP t e p τ' y
 | .optr t, x, .deref :: p, τ', y => GetP t x p τ' y
 | .st t, x, .unst :: p, τ', y => GetP t x p τ' y
 | .pr a _, x, .fst :: p, τ', y => GetP a x.1 p τ' y
 | .pr _ b, x, .snd :: p, τ', y => GetP b x.2 p τ' y
 | _, _, _, _, _ => False
def SetP : (τ : Ty) → τ.den → List Step → (τ' : Ty) → τ'.den → τ.den → Prop
 | τ, _, [], τ', y, x' => ∃ h : τ = τ', h ▸ x' = y
 | .osl t, xs, .idx i :: p, τ', y, xs' => ∃ e e', xs[i]? = some e ∧ SetP t e p τ' y e' ∧ xs' = xs.set i e'
 | .optr t, x, .deref :: p, τ', y, x' => SetP t x p τ' y x'
 | .st t, x, .unst :: p, τ', y, x' => SetP t x p τ' y x'
 | .pr a _, x, .fst :: p, τ', y, x' => ∃ e', SetP a x.1 p τ' y e' ∧ x' = (e', x.2)
 | .pr _ b, x, .snd :: p, τ', y, x' => ∃ e', SetP b x.2 p τ' y e' ∧ x' = (x.1, e')
 | _, _, _, _, _, _ => False
theorem GetP.nil_iff {τ : Ty} {x : τ.den} {τ' : Ty} {y : τ'.den} : GetP τ x [] τ' y ↔ ∃ h : τ = τ', h ▸ x = y := by cases τ <;> exact Iff.rfl
theorem SetP.nil_iff {τ : Ty} {x x' : τ.den} {τ' : Ty} {y : τ'.den} : SetP τ x [] τ' y x' ↔ ∃ h : τ = τ', h ▸ x' = y := by cases τ <;> exact Iff.rfl
abbrev Loc := Option (Nat × Nat)
def Nav (w : World) : (τ : Ty) → Loc → List Value → List Step → (τ' : Ty) → Loc → List Value → Prop
 | τ, loc, cs, [], τ', loc', cs' => τ = τ' ∧ loc = loc' ∧ cs = cs'
 | .osl t, _, cs, .idx i :: p, τ', loc', cs' => ∃ b o len cap ds, cs = [.slice (some ⟨b, o, none⟩) len cap] ∧ i < len ∧ ds.length = t.size ∧
    At w b (o + i * t.size) ds ∧ Nav w t (some (b, o + i * t.size)) ds p τ' loc' cs'
 | .optr t, _, cs, .deref :: p, τ', loc', cs' => ∃ b o ds, cs = [.pointer (some ⟨b, o, none⟩)] ∧ ds.length = t.size ∧ At w b o ds ∧ Nav w t (some (b, o)) ds p τ' loc' cs'
 | .st t, loc, cs, .unst :: p, τ', loc', cs' => Nav w t loc cs p τ' loc' cs'
 | .pr a _, loc, cs, .fst :: p, τ', loc', cs' => Nav w a loc (cs.take a.size) p τ' loc' cs'
 | .pr a b, loc, cs, .snd :: p, τ', loc', cs' => Nav w b (loc.map fun q => (q.1, q.2 + a.size)) (cs.drop a.size) p τ' loc' cs'
 | _, _, _, _, _, _, _ => False
theorem At.eq {w : World} {b o : Nat} {cs ds : List Value} (h : At w b o cs) (h' : At w b o ds) (hl : cs.length = ds.length) : cs = ds := by
 apply List.ext_getElem?
 intro j
 rcases Nat.lt_or_ge j cs.length with hj | hj
 ·have h1 := h j cs[j] (by simp [hj])
  have h2 := h' j (ds[j]'(by omega)) (by simp)
  rw [h1] at h2
  simp only [Option.some.injEq] at h2
  rw [List.getElem?_eq_getElem hj, List.getElem?_eq_getElem (by omega), h2]
 ·rw [List.getElem?_eq_none hj, List.getElem?_eq_none (by omega)]
theorem Nav.det {w : World} : ∀ {p : List Step} {τ : Ty} {loc : Loc} {cs : List Value} {t1 t2 : Ty} {l1 l2 : Loc} {c1 c2 : List Value},
  Nav w τ loc cs p t1 l1 c1 → Nav w τ loc cs p t2 l2 c2 → t1 = t2 ∧ l1 = l2 ∧ c1 = c2
 | [], τ, loc, cs, _, _, _, _, _, _, h1, h2 => by
     simp only [Nav] at h1 h2
     exact ⟨h1.1.symm.trans h2.1, h1.2.1.symm.trans h2.2.1, h1.2.2.symm.trans h2.2.2⟩
 | s :: p, τ, loc, cs, _, _, _, _, _, _, h1, h2 => by
     cases τ <;> cases s <;> simp only [Nav] at h1 h2
     case osl.idx t i =>
      obtain ⟨b, o, len, cap, ds, e1, _, l1, a1, n1⟩ := h1
      obtain ⟨b', o', len', cap', ds', e2, _, l2, a2, n2⟩ := h2
      rw [e1] at e2
      simp only [List.cons.injEq, Value.slice.injEq, Option.some.injEq, Addr.mk.injEq, and_true] at e2
      obtain ⟨⟨rfl, rfl⟩, rfl, rfl⟩ := e2
      obtain rfl := a1.eq a2 (by omega)
      exact Nav.det n1 n2
     case optr.deref t =>
      obtain ⟨b, o, ds, e1, l1, a1, n1⟩ := h1
      obtain ⟨b', o', ds', e2, l2, a2, n2⟩ := h2
      rw [e1] at e2
      simp only [List.cons.injEq, Value.pointer.injEq, Option.some.injEq, Addr.mk.injEq, and_true] at e2
      obtain ⟨rfl, rfl⟩ := e2
      obtain rfl := a1.eq a2 (by omega)
      exact Nav.det n1 n2
     case st.unst t => exact Nav.det h1 h2
     case pr.fst a b => exact Nav.det h1 h2
     case pr.snd a b => exact Nav.det h1 h2
def Chg (w w' : World) (loc : Loc) (n : Nat) (b : Nat) : Prop :=
 (∀ j, (∀ o, loc = some (b, o) → j < o ∨ o + n ≤ j) → w'.cell? ⟨b, j, none⟩ = w.cell? ⟨b, j, none⟩) ∧
 (∀ j, w'.frozen? ⟨b, j, none⟩ = w.frozen? ⟨b, j, none⟩) ∧ (∀ j, (w'.cell? ⟨b, j, none⟩).isSome = (w.cell? ⟨b, j, none⟩).isSome) ∧ mapOf w' b = mapOf w b
theorem Chg.sm {w w' : World} {loc : Loc} {n b : Nat} (h : Chg w w' loc n b) (hl : ∀ o, loc ≠ some (b, o)) : Sm w w' b :=
 ⟨fun j => ⟨h.1 j (fun o ho => absurd ho (hl o)), h.2.1 j⟩, h.2.2.2⟩
theorem Chg.fr {w w' : World} {loc : Loc} {n b lo hi : Nat} (h : Chg w w' loc n b) (hf : Fr w b lo hi) : Fr w' b lo hi :=
 fun j h1 h2 => by rw [h.2.1, h.2.2.1]; exact hf j h1 h2
def LocOk (w : World) (loc : Loc) (cs : List Value) (n : Nat) : Prop := ∀ b o, loc = some (b, o) → At w b o cs ∧ Fr w b o (o + n)
theorem At.take {w : World} {b o n : Nat} {cs : List Value} (h : At w b o cs) : At w b o (cs.take n) := fun j v hj => by
 rw [List.getElem?_take] at hj
 split at hj
 ·exact h j v hj
 ·cases hj
theorem At.drop {w : World} {b o n : Nat} {cs : List Value} (h : At w b o cs) : At w b (o + n) (cs.drop n) := fun j v hj => by
 rw [List.getElem?_drop] at hj
 have := h (n + j) v hj
 rwa [← Nat.add_assoc] at this
theorem At.append {w : World} {b o : Nat} {cs ds : List Value} (h : At w b o cs) (h' : At w b (o + cs.length) ds) : At w b o (cs ++ ds) := fun j v hj => by
 rw [List.getElem?_append] at hj
 split at hj
 ·exact h j v hj
 ·have := h' _ v hj
  rwa [show o + cs.length + (j - cs.length) = o + j by omega] at this
theorem split_at {α : Type} {l : List α} {i : Nat} {x : α} (h : l[i]? = some x) : ∃ pre post, l = pre ++ x :: post ∧ pre.length = i := by
 obtain ⟨hi, rfl⟩ := List.getElem?_eq_some_iff.1 h
 exact ⟨l.take i, l.drop (i + 1), by rw [List.getElem_cons_drop, List.take_append_drop], by simp; omega⟩
theorem Nav.sm {M : Md → Nat → Prop} {w w' : World} : ∀ {p : List Step} {τ : Ty} {loc : Loc} {cs : List Value} {x : τ.den} {fp : List Nat} {τ' : Ty} {loc' : Loc} {cs' : List Value},
  Rep M w τ cs x fp → (∀ b ∈ fp, Sm w w' b) → Nav w τ loc cs p τ' loc' cs' → Nav w' τ loc cs p τ' loc' cs'
 | [], τ, _, _, _, _, _, _, _, _, _, h => by cases τ <;> exact h
 | s :: p, τ, loc, cs, x, fp, τ', loc', cs', hr, hs, h => by
     cases τ <;> cases s <;> simp only [Nav] at h
     case osl.idx t i =>
      obtain ⟨b, o, len, cap, ds, rfl, hi, hl, ha, hn⟩ := h
      obtain ⟨a, cap', h1, h2⟩ := hr
      simp only [List.cons.injEq, Value.slice.injEq, and_true] at h1
      obtain ⟨rfl, rfl, rfl⟩ := h1
      rcases h2 with ⟨h0, _⟩ | ⟨b', o', fps, h0, rfl, q1, q2, q3, q4⟩
      ·cases h0
      ·simp only [Option.some.injEq, Addr.mk.injEq, and_true] at h0
       obtain ⟨rfl, rfl⟩ := h0
       obtain ⟨ds', d1, d2, d3⟩ := q4 i x[i] (fps[i]'(by omega)) (by simp [hi]) (by simp)
       obtain rfl := ha.eq d2 (by omega)
       exact ⟨b, o, _, cap, ds, rfl, hi, hl, ha.sm (hs b (by simp)), Nav.sm d3 (fun c hc => hs c (List.mem_cons_of_mem _ (List.mem_flatten.2 ⟨_, List.getElem_mem (by omega), hc⟩))) hn⟩
     case optr.deref t =>
      obtain ⟨b, o, ds, rfl, hl, ha, hn⟩ := h
      obtain ⟨b', o', f', ds', h1', rfl, h3', h4', _, h6'⟩ := hr
      simp only [List.cons.injEq, Value.pointer.injEq, Option.some.injEq, Addr.mk.injEq, and_true] at h1'
      obtain ⟨rfl, rfl⟩ := h1'
      obtain rfl := ha.eq h4' (by omega)
      exact ⟨b, o, ds, rfl, hl, ha.sm (hs b (by simp)), Nav.sm h6' (fun c hc => hs c (by simp [hc])) hn⟩
     case st.unst t => exact Nav.sm (τ := t) hr hs h
     case pr.fst a b =>
      obtain ⟨f1, f2, rfl, h1, h2⟩ := hr
      exact Nav.sm (τ := a) h1 (fun c hc => hs c (by simp [hc])) h
     case pr.snd a b =>
      obtain ⟨f1, f2, rfl, h1, h2⟩ := hr
      exact Nav.sm (τ := b) h2 (fun c hc => hs c (by simp [hc])) h
def hasMem : List Step → Bool
 | [] => false
 | .idx _ :: _ => true
 | .deref :: _ => true
 | _ :: p => hasMem p
def keepP : List Step → List Step → Bool
 | p, [] => hasMem p
 | .idx _ :: p, .idx _ :: q => keepP p q
 | .deref :: p, .deref :: q => keepP p q
 | .unst :: p, .unst :: q => keepP p q
 | .fst :: p, .fst :: q => keepP p q
 | .snd :: p, .snd :: q => keepP p q
 | .fst :: _, .snd :: _ => true
 | .snd :: _, .fst :: _ => true
 | _, _ => false
theorem Nav.root_iff {w : World} {τ τ' : Ty} {l l' : Loc} {cs cs' : List Value} : Nav w τ l cs [] τ' l' cs' ↔ τ = τ' ∧ l = l' ∧ cs = cs' := by cases τ <;> exact Iff.rfl
theorem focus {M : Md → Nat → Prop} {w : World} : ∀ (p : List Step) {τ : Ty} {loc : Loc} {cs : List Value} {x : τ.den} {fp : List Nat} {τ' : Ty} {y : τ'.den},
  Rep M w τ cs x fp → LocOk w loc cs τ.size → fp.Nodup → (∀ b o, loc = some (b, o) → b ∉ fp ∧ ∀ m, ¬ M m b) → (∀ b ∈ fp, ∀ m, ¬ M m b) → GetP τ x p τ' y →
  ∃ loc' cs' fp' rest, Nav w τ loc cs p τ' loc' cs' ∧ Rep M w τ' cs' y fp' ∧ LocOk w loc' cs' τ'.size ∧ fp.Perm (fp' ++ rest) ∧
    (∀ bt ot, loc' = some (bt, ot) → (∃ o, loc = some (bt, o) ∧ o ≤ ot ∧ ot + τ'.size ≤ o + τ.size) ∨ bt ∈ rest) ∧
    (∀ (w' : World) (M' : Md → Nat → Prop) (cs2 : List Value) (y2 : τ'.den) (fp2 : List Nat) (x2 : τ.den),
      (∀ m b, M m b → M' m b) → (∀ b, (∃ m, M m b) ∨ b ∈ rest ∨ (∃ o, loc = some (b, o)) → Chg w w' loc' τ'.size b) →
      Rep M' w' τ' cs2 y2 fp2 → (loc' = none → p ≠ [] → cs2 = cs') → (∀ b o, loc' = some (b, o) → At w' b o cs2) → SetP τ x p τ' y2 x2 →
      ∃ cs3 fp3, Rep M' w' τ cs3 x2 fp3 ∧ (p = [] → cs3 = cs2) ∧ (loc = none → (loc' ≠ none ∨ cs2 = cs') → cs3 = cs) ∧ (∀ b o, loc = some (b, o) → At w' b o cs3) ∧ fp3.Perm (fp2 ++ rest) ∧ Nav w' τ loc cs3 p τ' loc' cs2 ∧
        ∀ (q : List Step) (τq : Ty) (lq : Loc) (cq : List Value), keepP p q = true → Nav w τ loc cs q τq lq cq → Nav w' τ loc cs3 q τq lq cq) := by
 intro p
 induction p with
 | nil =>
   intro τ loc cs x fp τ' y hr hl hn hb hm hg
   obtain ⟨rfl, rfl⟩ := GetP.nil_iff.1 hg
   refine ⟨loc, cs, fp, [], (by cases τ <;> exact ⟨rfl, rfl, rfl⟩), hr, hl, by simp, fun bt ot h => .inl ⟨ot, h, by omega, by omega⟩, ?_⟩
   intro w' M' cs2 y2 fp2 x2 _ _ hr2 _ h2 hs
   obtain ⟨_, rfl⟩ := SetP.nil_iff.1 hs
   exact ⟨cs2, fp2, hr2, fun _ => rfl, fun h0 h => h.resolve_left (fun q => q h0), h2, by simp, (by cases τ <;> exact ⟨rfl, rfl, rfl⟩), fun q _ _ _ hk => by cases q <;> simp [keepP, hasMem] at hk⟩
 | cons s p ih =>
   intro τ loc cs x fp τ' y hr hl hn hb hm hg
   cases τ <;> cases s <;> simp only [GetP] at hg
   case osl.idx t i =>
    obtain ⟨e, he, hg⟩ := hg
    obtain ⟨a, cap, rfl, hr⟩ := hr
    rcases hr with ⟨_, rfl, _⟩ | ⟨b, o, fps, rfl, rfl, hlen, hcap, hfr, hx⟩
    ·simp at he
    have hi : i < x.length := (List.getElem?_eq_some_iff.1 he).1
    obtain ⟨f, hf⟩ : ∃ f, fps[i]? = some f := ⟨fps[i], List.getElem?_eq_getElem (by omega)⟩
    obtain ⟨ds, hd1, hd2, hd3⟩ := hx i e f he hf
    obtain ⟨pre, post, hfps, hpre⟩ := split_at hf
    have hin : ∀ k, k < x.length → o + k * t.size + t.size ≤ o + cap * t.size := fun k hk => by
     have : (k + 1) * t.size ≤ cap * t.size := Nat.mul_le_mul_right _ (by omega)
     rw [Nat.add_mul, Nat.one_mul] at this
     omega
    have hlo : LocOk w (some (b, o + i * t.size)) ds t.size := by
     rintro b' o' h
     simp only [Option.some.injEq, Prod.mk.injEq] at h
     obtain ⟨rfl, rfl⟩ := h
     exact ⟨hd2, fun j h1 h2 => hfr j (by omega) (by have := hin i hi; omega)⟩
    have hnd := hn
    rw [hfps] at hnd
    simp only [List.flatten_append, List.flatten_cons, List.nodup_cons, List.nodup_append, List.mem_append, not_or] at hnd
    obtain ⟨⟨hb1, hb2, hb3⟩, hn1, ⟨hn2, hn3, hn4⟩, hn5⟩ := hnd
    obtain ⟨loc', cs', fp', rest, g1, g2, g3, g4, g5, g6⟩ := ih (loc := some (b, o + i * t.size)) hd3 hlo hn2
     (by rintro b' o' h; simp only [Option.some.injEq, Prod.mk.injEq] at h; obtain ⟨rfl, rfl⟩ := h; exact ⟨hb2, hm b (by simp)⟩)
     (fun c hc => hm c (by rw [hfps]; simp [hc])) hg
    refine ⟨loc', cs', fp', b :: (pre.flatten ++ (rest ++ post.flatten)), ⟨b, o, _, cap, ds, rfl, hi, hd1, hd2, g1⟩, g2, g3, ?_, ?_, ?_⟩
    ·rw [hfps]
     simp only [List.flatten_append, List.flatten_cons]
     rw [List.perm_iff_count] at g4 ⊢
     intro c
     have := g4 c
     simp only [List.count_append, List.count_cons] at this ⊢
     omega
    ·intro bt ot h
     right
     rcases g5 bt ot h with ⟨o', h1, _⟩ | h1
     ·simp only [Option.some.injEq, Prod.mk.injEq] at h1
      rw [h1.1]; simp
     ·simp [h1]
    ·intro w' M' cs2 y2 fp2 x2 hMM hch hr2 hnone hat hs
     simp only [SetP] at hs
     obtain ⟨e0, e', he0, hs, rfl⟩ := hs
     obtain rfl : e0 = e := by rw [he] at he0; exact (Option.some.inj he0).symm
     obtain ⟨cs3, fp3, k1, _, _, k2, k3, k9, k10⟩ := g6 w' M' cs2 y2 fp2 e' hMM
      (by
        rintro c (h | h | ⟨o', h⟩)
        ·exact hch c (.inl h)
        ·exact hch c (.inr (.inl (by simp [h])))
        ·simp only [Option.some.injEq, Prod.mk.injEq] at h
         exact hch c (.inr (.inl (by rw [← h.1]; simp)))) hr2
      (by
        intro h0 hp
        exact hnone h0 (by simp)) hat hs
     have hbt : ∀ bt ot, loc' = some (bt, ot) → (bt = b ∧ o + i * t.size ≤ ot ∧ ot + τ'.size ≤ o + i * t.size + t.size) ∨ bt ∈ f := by
      intro bt ot h
      rcases g5 bt ot h with ⟨o', h1, h2, h3⟩ | h1
      ·simp only [Option.some.injEq, Prod.mk.injEq] at h1
       obtain ⟨rfl, rfl⟩ := h1
       exact .inl ⟨rfl, h2, h3⟩
      ·exact .inr (g4.mem_iff.2 (by simp [h1]))
     have hcb := hch b (.inr (.inl (by simp)))
     have hMsm : ∀ m c, M m c → M' m c ∧ Sm w w' c := fun m c hc => ⟨hMM m c hc, (hch c (.inl ⟨m, hc⟩)).sm (fun o' h => by
      rcases hbt c o' h with ⟨rfl, _⟩ | h1
      ·exact hm c (by simp) m hc
      ·exact hm c (by rw [hfps]; simp [h1]) m hc)⟩
     have hoth : ∀ (k : Nat) (z : t.den) (g : List Nat), k ≠ i → x[k]? = some z → fps[k]? = some g → ∀ dk : List Value, dk.length = t.size → At w b (o + k * t.size) dk → At w' b (o + k * t.size) dk ∧ ∀ c ∈ g, Sm w w' c := by
      intro k z g hki hk hg' dk m1 m2
      have hkx : k < x.length := (List.getElem?_eq_some_iff.1 hk).1
      have hgn : ∀ c ∈ g, c ∈ pre.flatten ∨ c ∈ post.flatten := by
       intro c hc
       rw [hfps] at hg'
       rcases Nat.lt_or_ge k pre.length with h | h
       ·rw [List.getElem?_append_left h] at hg'
        exact .inl (List.mem_flatten.2 ⟨g, List.mem_of_getElem? hg', hc⟩)
       ·rw [List.getElem?_append_right h] at hg'
        obtain ⟨q, hq⟩ : ∃ q, k - pre.length = q + 1 := ⟨k - pre.length - 1, by omega⟩
        rw [hq] at hg'
        simp only [List.getElem?_cons_succ] at hg'
        exact .inr (List.mem_flatten.2 ⟨g, List.mem_of_getElem? hg', hc⟩)
      refine ⟨?_, ?_⟩
      ·intro j v hj
       have hjl : j < dk.length := (List.getElem?_eq_some_iff.1 hj).1
       rw [hcb.1]
       ·exact m2 j v hj
       ·intro ot h
        rcases hbt b ot h with ⟨_, h1, h2⟩ | h1
        ·rcases Nat.lt_or_gt_of_ne hki with hlt | hgt
         ·left
          have : (k + 1) * t.size ≤ i * t.size := Nat.mul_le_mul_right _ (by omega)
          rw [Nat.add_mul, Nat.one_mul] at this
          omega
         ·right
          have : (i + 1) * t.size ≤ k * t.size := Nat.mul_le_mul_right _ (by omega)
          rw [Nat.add_mul, Nat.one_mul] at this
          omega
        ·exact absurd h1 hb2
      ·intro c hc
       refine (hch c (.inr (.inl ?_))).sm ?_
       ·rcases hgn c hc with h | h <;> simp [h]
       ·intro ot h
        rcases hbt c ot h with ⟨rfl, _⟩ | h1
        ·rcases hgn c hc with h | h
         ·exact hb1 h
         ·exact hb3 h
        ·rcases hgn c hc with h | h
         ·exact hn5 c h c (.inl h1) rfl
         ·exact hn4 c h1 c h rfl
     refine ⟨[.slice (some ⟨b, o, none⟩) x.length cap], b :: (pre ++ fp3 :: post).flatten, ⟨some ⟨b, o, none⟩, cap, by simp, .inr ⟨b, o, pre ++ fp3 :: post, rfl, rfl, ?_, by simpa using hcap, hcb.fr hfr, ?_⟩⟩,
      by simp, fun _ _ => rfl, ?_, ?_, ⟨b, o, _, cap, cs3, rfl, hi, by rw [k1.len], k2 b _ rfl, k9⟩, ?_⟩
     ·rw [hfps] at hlen; simpa using hlen
     ·intro k z g hk hg
      by_cases hki : k = i
      ·subst hki
       rw [List.getElem?_set_self hi] at hk
       obtain rfl := Option.some.inj hk
       rw [List.getElem?_append_right (by omega), hpre, Nat.sub_self] at hg
       simp only [List.getElem?_cons_zero, Option.some.injEq] at hg
       subst hg
       exact ⟨cs3, by rw [k1.len], k2 b _ rfl, k1⟩
      ·rw [List.getElem?_set_ne (fun h => hki h.symm)] at hk
       have hg' : fps[k]? = some g := by
        rw [hfps]
        rcases Nat.lt_or_ge k pre.length with h | h
        ·rw [List.getElem?_append_left h] at hg ⊢; exact hg
        ·rw [List.getElem?_append_right h] at hg ⊢
         obtain ⟨q, hq⟩ : ∃ q, k - pre.length = q + 1 := ⟨k - pre.length - 1, by omega⟩
         rw [hq] at hg ⊢
         simpa using hg
       obtain ⟨dk, m1, m2, m3⟩ := hx k z g hk hg'
       obtain ⟨n1, n2⟩ := hoth k z g hki hk hg' dk m1 m2
       exact ⟨dk, m1, n1, m3.mono hMsm n2⟩
     ·intro b' o' h
      have hb' := (hb b' o' h).1
      refine ((hl b' o' h).1).sm ((hch b' (.inr (.inr ⟨o', h⟩))).sm ?_)
      intro ot h'
      rcases hbt b' ot h' with ⟨rfl, _⟩ | h1
      ·exact hb' (by simp)
      ·exact hb' (by rw [hfps]; simp [h1])
     ·rw [List.perm_iff_count] at k3 ⊢
      intro c
      have := k3 c
      simp only [List.flatten_append, List.flatten_cons, List.count_append, List.count_cons] at this ⊢
      omega
     ·intro q τq lq cq hk hq
      cases q with
      | nil => exact hq
      | cons s' q =>
        cases s' <;> simp only [keepP] at hk <;> first | (cases hk; done) | skip
        rename_i j
        obtain ⟨b', o', len', cap', dj, h1, h2, h3, h4, h5⟩ := hq
        simp only [List.cons.injEq, Value.slice.injEq, Option.some.injEq, Addr.mk.injEq, and_true] at h1
        obtain ⟨⟨rfl, rfl⟩, rfl, rfl⟩ := h1
        by_cases hji : j = i
        ·subst hji
         obtain rfl := h4.eq hd2 (by omega)
         exact ⟨b, o, _, cap, cs3, rfl, h2, k1.len, k2 b _ rfl, k10 q τq lq cq hk h5⟩
        ·have hz : x[j]? = some x[j] := List.getElem?_eq_getElem h2
         have hgj : fps[j]? = some (fps[j]'(by omega)) := List.getElem?_eq_getElem _
         obtain ⟨dk, m1, m2, m3⟩ := hx j _ _ hz hgj
         obtain rfl := h4.eq m2 (by omega)
         obtain ⟨n1, n2⟩ := hoth j _ _ hji hz hgj dj h3 h4
         exact ⟨b, o, _, cap, dj, rfl, h2, h3, n1, Nav.sm m3 n2 h5⟩
   case optr.deref t =>
    obtain ⟨b, o, f, ds, rfl, rfl, hd1, hd2, hfr, hd3⟩ := hr
    simp only [List.nodup_cons] at hn
    obtain ⟨hbf, hnf⟩ := hn
    have hlo : LocOk w (some (b, o)) ds t.size := by
     rintro b' o' h
     simp only [Option.some.injEq, Prod.mk.injEq] at h
     obtain ⟨rfl, rfl⟩ := h
     exact ⟨hd2, hfr⟩
    obtain ⟨loc', cs', fp', rest, g1, g2, g3, g4, g5, g6⟩ := ih (loc := some (b, o)) hd3 hlo hnf
     (by rintro b' o' h; simp only [Option.some.injEq, Prod.mk.injEq] at h; obtain ⟨rfl, rfl⟩ := h; exact ⟨hbf, hm b (by simp)⟩)
     (fun c hc => hm c (by simp [hc])) hg
    refine ⟨loc', cs', fp', b :: rest, ⟨b, o, ds, rfl, hd1, hd2, g1⟩, g2, g3, ?_, ?_, ?_⟩
    ·rw [List.perm_iff_count] at g4 ⊢
     intro c
     have := g4 c
     simp only [List.count_append, List.count_cons] at this ⊢
     omega
    ·intro bt ot h
     right
     rcases g5 bt ot h with ⟨o', h1, _⟩ | h1
     ·simp only [Option.some.injEq, Prod.mk.injEq] at h1
      rw [h1.1]; simp
     ·simp [h1]
    ·intro w' M' cs2 y2 fp2 x2 hMM hch hr2 hnone hat hs
     simp only [SetP] at hs
     obtain ⟨cs3, fp3, k1, _, _, k2, k3, k9, k10⟩ := g6 w' M' cs2 y2 fp2 x2 hMM
      (by
        rintro c (h | h | ⟨o', h⟩)
        ·exact hch c (.inl h)
        ·exact hch c (.inr (.inl (by simp [h])))
        ·simp only [Option.some.injEq, Prod.mk.injEq] at h
         exact hch c (.inr (.inl (by rw [← h.1]; simp)))) hr2
      (fun h0 _ => hnone h0 (by simp)) hat hs
     have hcb := hch b (.inr (.inl (by simp)))
     refine ⟨[.pointer (some ⟨b, o, none⟩)], b :: fp3, ⟨b, o, fp3, cs3, rfl, rfl, k1.len, k2 b o rfl, hcb.fr hfr, k1⟩, by simp, fun _ _ => rfl, ?_, ?_, ⟨b, o, cs3, rfl, k1.len, k2 b o rfl, k9⟩, ?_⟩
     ·intro b' o' h
      have hb' := (hb b' o' h).1
      refine ((hl b' o' h).1).sm ((hch b' (.inr (.inr ⟨o', h⟩))).sm ?_)
      intro ot h'
      rcases g5 b' ot h' with ⟨o1, h1, _⟩ | h1
      ·simp only [Option.some.injEq, Prod.mk.injEq] at h1
       exact hb' (by rw [h1.1]; simp)
      ·exact hb' (List.mem_cons_of_mem _ (g4.mem_iff.2 (by simp [h1])))
     ·rw [List.perm_iff_count] at k3 ⊢
      intro c
      have := k3 c
      simp only [List.count_append, List.count_cons] at this ⊢
      omega
     ·intro q τq lq cq hk hq
      cases q with
      | nil => exact hq
      | cons s' q =>
        cases s' <;> simp only [keepP] at hk <;> first | (cases hk; done) | skip
        obtain ⟨b', o', dj, h1, h3, h4, h5⟩ := hq
        simp only [List.cons.injEq, Value.pointer.injEq, Option.some.injEq, Addr.mk.injEq, and_true] at h1
        obtain ⟨rfl, rfl⟩ := h1
        obtain rfl := h4.eq hd2 (by omega)
        exact ⟨b, o, cs3, rfl, k1.len, k2 b o rfl, k10 q τq lq cq hk h5⟩
   case st.unst t =>
    obtain ⟨loc', cs', fp', rest, g1, g2, g3, g4, g5, g6⟩ := ih (loc := loc) (τ := t) hr hl hn hb hm hg
    refine ⟨loc', cs', fp', rest, g1, g2, g3, g4, g5, ?_⟩
    intro w' M' cs2 y2 fp2 x2 hMM hch hr2 hnone hat hs
    obtain ⟨cs3, fp3, k1, k4, k5, k2, k3, k9, k10⟩ := g6 w' M' cs2 y2 fp2 x2 hMM hch hr2 (fun h0 _ => hnone h0 (by simp)) hat hs
    refine ⟨cs3, fp3, k1, by simp, k5, k2, k3, k9, ?_⟩
    intro q τq lq cq hk hq
    cases q with
    | nil =>
      obtain ⟨rfl, rfl, rfl⟩ := Nav.root_iff.1 hq
      obtain ⟨_, _, e⟩ := Nav.root_iff.1 (k10 [] t loc cs (by simpa [keepP, hasMem] using hk) (Nav.root_iff.2 ⟨rfl, rfl, rfl⟩))
      exact Nav.root_iff.2 ⟨rfl, rfl, e⟩
    | cons s' q =>
      cases s' <;> simp only [keepP] at hk <;> first | (cases hk; done) | skip
      exact k10 q τq lq cq hk hq
   case pr.fst ta tb =>
    obtain ⟨f1, f2, rfl, h1, h2⟩ := hr
    have l1 := h1.len
    have l2 := h2.len
    simp only [List.length_take, List.length_drop] at l1 l2
    have hlo : LocOk w loc (cs.take ta.size) ta.size := fun b o h => ⟨(hl b o h).1.take, fun j q1 q2 => (hl b o h).2 j q1 (by show j < o + (ta.size + tb.size); omega)⟩
    simp only [List.nodup_append] at hn
    obtain ⟨hn1, hn2, hn3⟩ := hn
    obtain ⟨loc', cs', fp', rest, g1, g2, g3, g4, g5, g6⟩ := ih (loc := loc) h1 hlo hn1 (fun b o h => ⟨fun q => (hb b o h).1 (by simp [q]), (hb b o h).2⟩) (fun c hc => hm c (by simp [hc])) hg
    refine ⟨loc', cs', fp', rest ++ f2, g1, g2, g3, ?_, ?_, ?_⟩
    ·rw [List.perm_iff_count] at g4 ⊢
     intro c
     have := g4 c
     simp only [List.count_append] at this ⊢
     omega
    ·intro bt ot h
     rcases g5 bt ot h with ⟨o', q1, q2, q3⟩ | q1
     ·exact .inl ⟨o', q1, q2, by show ot + τ'.size ≤ o' + (ta.size + tb.size); omega⟩
     ·exact .inr (by simp [q1])
    ·intro w' M' cs2 y2 fp2 x2 hMM hch hr2 hnone hat hs
     simp only [SetP] at hs
     obtain ⟨e', hs, rfl⟩ := hs
     obtain ⟨cs3, fp3, k1, _, k5, k2, k3, k9, k10⟩ := g6 w' M' cs2 y2 fp2 e' hMM
      (by
        rintro c (h | h | h)
        ·exact hch c (.inl h)
        ·exact hch c (.inr (.inl (by simp [h])))
        ·exact hch c (.inr (.inr h))) hr2 (fun h0 _ => hnone h0 (by simp)) hat hs
     have hbt : ∀ bt ot, loc' = some (bt, ot) → (∃ o, loc = some (bt, o) ∧ o ≤ ot ∧ ot + τ'.size ≤ o + ta.size) ∨ bt ∈ f1 := fun bt ot h => (g5 bt ot h).imp id (fun q => g4.mem_iff.2 (by simp [q]))
     have hMsm : ∀ m c, M m c → M' m c ∧ Sm w w' c := fun m c hc => ⟨hMM m c hc, (hch c (.inl ⟨m, hc⟩)).sm (fun o' h => by
      rcases hbt c o' h with ⟨o, q, _⟩ | q
      ·exact (hb c o q).2 m hc
      ·exact hm c (by simp [q]) m hc)⟩
     have hsm2 : ∀ c ∈ f2, Sm w w' c := fun c hc => (hch c (.inr (.inl (by simp [hc])))).sm (fun ot h => by
      rcases hbt c ot h with ⟨o, q, _⟩ | q
      ·exact (hb c o q).1 (by simp [hc])
      ·exact hn3 c q c hc rfl)
     have l3 := k1.len
     refine ⟨cs3 ++ cs.drop ta.size, fp3 ++ f2, ⟨fp3, f2, rfl, ?_, ?_⟩, by simp, ?_, ?_, ?_, (by
      show Nav w' ta loc ((cs3 ++ cs.drop ta.size).take ta.size) p τ' loc' cs2
      rw [List.take_append_of_le_length (by omega), List.take_of_length_le (by omega)]; exact k9), ?_⟩
     ·rw [List.take_append_of_le_length (by omega), List.take_of_length_le (by omega)]; exact k1
     ·rw [List.drop_append_of_le_length (by omega), List.drop_of_length_le (by omega), List.nil_append]
      exact h2.mono hMsm hsm2
     ·intro q1 q2
      rw [k5 q1 q2, List.take_append_drop]
     ·intro b o h
      refine (k2 b o h).append ?_
      rw [l3]
      intro j v hj
      have hcb := hch b (.inr (.inr ⟨o, h⟩))
      have hjl : j < (cs.drop ta.size).length := (List.getElem?_eq_some_iff.1 hj).1
      simp only [List.length_drop] at hjl
      rw [hcb.1]
      ·exact ((hl b o h).1.drop) j v hj
      ·intro ot h'
       rcases hbt b ot h' with ⟨o1, q1, q2, q3⟩ | q
       ·rw [h] at q1
        simp only [Option.some.injEq, Prod.mk.injEq, true_and] at q1
        right; omega
       ·exact absurd (by simp [q]) (hb b o h).1
     ·rw [List.perm_iff_count] at k3 ⊢
      intro c
      have := k3 c
      simp only [List.count_append] at this ⊢
      omega
     ·intro q τq lq cq hk hq
      have e1 : (cs3 ++ cs.drop ta.size).take ta.size = cs3 := by rw [List.take_append_of_le_length (by omega), List.take_of_length_le (by omega)]
      have e2 : (cs3 ++ cs.drop ta.size).drop ta.size = cs.drop ta.size := by rw [List.drop_append_of_le_length (by omega), List.drop_of_length_le (by omega), List.nil_append]
      cases q with
      | nil =>
        obtain ⟨rfl, rfl, rfl⟩ := Nav.root_iff.1 hq
        obtain ⟨_, _, e⟩ := Nav.root_iff.1 (k10 [] ta loc (cs.take ta.size) (by simpa [keepP, hasMem] using hk) (Nav.root_iff.2 ⟨rfl, rfl, rfl⟩))
        exact Nav.root_iff.2 ⟨rfl, rfl, by rw [e, List.take_append_drop]⟩
      | cons s' q =>
        cases s' <;> simp only [keepP] at hk <;> first | (cases hk; done) | skip
        ·show Nav w' ta loc ((cs3 ++ cs.drop ta.size).take ta.size) q τq lq cq
         rw [e1]
         exact k10 q τq lq cq hk hq
        ·show Nav w' tb (loc.map fun q => (q.1, q.2 + ta.size)) ((cs3 ++ cs.drop ta.size).drop ta.size) q τq lq cq
         rw [e2]
         exact Nav.sm h2 hsm2 hq
   case pr.snd ta tb =>
    obtain ⟨f1, f2, rfl, h1, h2⟩ := hr
    have l1 := h1.len
    have l2 := h2.len
    simp only [List.length_take, List.length_drop] at l1 l2
    have hlo : LocOk w (loc.map fun q => (q.1, q.2 + ta.size)) (cs.drop ta.size) tb.size := by
     intro b o h
     cases loc with
     | none => simp at h
     | some q =>
       obtain ⟨b0, o0⟩ := q
       simp only [Option.map_some, Option.some.injEq, Prod.mk.injEq] at h
       obtain ⟨rfl, rfl⟩ := h
       exact ⟨(hl _ _ rfl).1.drop, fun j q1 q2 => (hl _ _ rfl).2 j (by omega) (by show j < o0 + (ta.size + tb.size); omega)⟩
    simp only [List.nodup_append] at hn
    obtain ⟨hn1, hn2, hn3⟩ := hn
    have hb2 : ∀ b o, (loc.map fun q => (q.1, q.2 + ta.size)) = some (b, o) → ∃ o0, loc = some (b, o0) ∧ o = o0 + ta.size := by
     intro b o h
     cases loc with
     | none => simp at h
     | some q =>
       obtain ⟨b0, o0⟩ := q
       simp only [Option.map_some, Option.some.injEq, Prod.mk.injEq] at h
       exact ⟨o0, by rw [h.1], h.2.symm⟩
    obtain ⟨loc', cs', fp', rest, g1, g2, g3, g4, g5, g6⟩ := ih (loc := loc.map fun q => (q.1, q.2 + ta.size)) h2 hlo hn2
     (fun b o h => by obtain ⟨o0, h, _⟩ := hb2 b o h; exact ⟨fun q => (hb b o0 h).1 (by simp [q]), (hb b o0 h).2⟩) (fun c hc => hm c (by simp [hc])) hg
    refine ⟨loc', cs', fp', rest ++ f1, g1, g2, g3, ?_, ?_, ?_⟩
    ·rw [List.perm_iff_count] at g4 ⊢
     intro c
     have := g4 c
     simp only [List.count_append] at this ⊢
     omega
    ·intro bt ot h
     rcases g5 bt ot h with ⟨o', q1, q2, q3⟩ | q1
     ·obtain ⟨o0, q4, rfl⟩ := hb2 _ _ q1
      exact .inl ⟨o0, q4, by omega, by show ot + τ'.size ≤ o0 + (ta.size + tb.size); omega⟩
     ·exact .inr (by simp [q1])
    ·intro w' M' cs2 y2 fp2 x2 hMM hch hr2 hnone hat hs
     simp only [SetP] at hs
     obtain ⟨e', hs, rfl⟩ := hs
     obtain ⟨cs3, fp3, k1, _, k5, k2, k3, k9, k10⟩ := g6 w' M' cs2 y2 fp2 e' hMM
      (by
        rintro c (h | h | ⟨o, h⟩)
        ·exact hch c (.inl h)
        ·exact hch c (.inr (.inl (by simp [h])))
        ·obtain ⟨o0, q4, rfl⟩ := hb2 _ _ h
         exact hch c (.inr (.inr ⟨o0, q4⟩))) hr2 (fun h0 _ => hnone h0 (by simp)) hat hs
     have hbt : ∀ bt ot, loc' = some (bt, ot) → (∃ o, loc = some (bt, o) ∧ o + ta.size ≤ ot ∧ ot + τ'.size ≤ o + ta.size + tb.size) ∨ bt ∈ f2 := fun bt ot h => by
      rcases g5 bt ot h with ⟨o', q1, q2, q3⟩ | q
      ·obtain ⟨o0, q4, rfl⟩ := hb2 _ _ q1
       exact .inl ⟨o0, q4, q2, q3⟩
      ·exact .inr (g4.mem_iff.2 (by simp [q]))
     have hMsm : ∀ m c, M m c → M' m c ∧ Sm w w' c := fun m c hc => ⟨hMM m c hc, (hch c (.inl ⟨m, hc⟩)).sm (fun o' h => by
      rcases hbt c o' h with ⟨o, q, _⟩ | q
      ·exact (hb c o q).2 m hc
      ·exact hm c (by simp [q]) m hc)⟩
     have hsm1 : ∀ c ∈ f1, Sm w w' c := fun c hc => (hch c (.inr (.inl (by simp [hc])))).sm (fun ot h => by
      rcases hbt c ot h with ⟨o, q, _⟩ | q
      ·exact (hb c o q).1 (by simp [hc])
      ·exact hn3 c hc c q rfl)
     have l3 := k1.len
     refine ⟨cs.take ta.size ++ cs3, f1 ++ fp3, ⟨f1, fp3, rfl, ?_, ?_⟩, by simp, ?_, ?_, ?_, (by
      show Nav w' tb (loc.map fun q => (q.1, q.2 + ta.size)) ((cs.take ta.size ++ cs3).drop ta.size) p τ' loc' cs2
      rw [List.drop_append_of_le_length (by simp; omega), List.drop_of_length_le (by simp; omega), List.nil_append]; exact k9), ?_⟩
     ·rw [List.take_append_of_le_length (by simp; omega), List.take_take, Nat.min_self]
      exact h1.mono hMsm hsm1
     ·rw [List.drop_append_of_le_length (by simp; omega), List.drop_of_length_le (by simp; omega), List.nil_append]; exact k1
     ·intro q1 q2
      rw [k5 (by rw [q1]; rfl) q2, List.take_append_drop]
     ·intro b o h
      have hcb := hch b (.inr (.inr ⟨o, h⟩))
      have ha : At w' b o (cs.take ta.size) := by
       intro j v hj
       have hjl : j < (cs.take ta.size).length := (List.getElem?_eq_some_iff.1 hj).1
       simp only [List.length_take] at hjl
       rw [hcb.1]
       ·exact ((hl b o h).1.take) j v hj
       ·intro ot h'
        rcases hbt b ot h' with ⟨o1, q1, q2, q3⟩ | q
        ·rw [h] at q1
         simp only [Option.some.injEq, Prod.mk.injEq, true_and] at q1
         left; omega
        ·exact absurd (by simp [q]) (hb b o h).1
      refine ha.append ?_
      have := k2 b (o + ta.size) (by rw [h]; rfl)
      rwa [List.length_take, Nat.min_eq_left (by omega)]
     ·rw [List.perm_iff_count] at k3 ⊢
      intro c
      have := k3 c
      simp only [List.count_append] at this ⊢
      omega
     ·intro q τq lq cq hk hq
      have e1 : (cs.take ta.size ++ cs3).take ta.size = cs.take ta.size := by rw [List.take_append_of_le_length (by simp; omega), List.take_take, Nat.min_self]
      have e2 : (cs.take ta.size ++ cs3).drop ta.size = cs3 := by rw [List.drop_append_of_le_length (by simp; omega), List.drop_of_length_le (by simp; omega), List.nil_append]
      cases q with
      | nil =>
        obtain ⟨rfl, rfl, rfl⟩ := Nav.root_iff.1 hq
        obtain ⟨_, _, e⟩ := Nav.root_iff.1 (k10 [] tb (loc.map fun q => (q.1, q.2 + ta.size)) (cs.drop ta.size) (by simpa [keepP, hasMem] using hk) (Nav.root_iff.2 ⟨rfl, rfl, rfl⟩))
        exact Nav.root_iff.2 ⟨rfl, rfl, by rw [e, List.take_append_drop]⟩
      | cons s' q =>
        cases s' <;> simp only [keepP] at hk <;> first | (cases hk; done) | skip
        ·show Nav w' ta loc ((cs.take ta.size ++ cs3).take ta.size) q τq lq cq
         rw [e1]
         exact Nav.sm h1 hsm1 hq
        ·show Nav w' tb (loc.map fun q => (q.1, q.2 + ta.size)) ((cs.take ta.size ++ cs3).drop ta.size) q τq lq cq
         rw [e2]
         exact k10 q τq lq cq hk hq
end Go.Fw
end
section
namespace Go.Fw
def md (I B : Nat → Prop) : Md → Nat → Prop
 | .imm => I
 | .bor => fun b => I b ∨ B b
theorem md_or {I B : Nat → Prop} {m : Md} {b : Nat} (h : md I B m b) : I b ∨ B b := by cases m; exact .inl h; exact h
inductive AV where
 | dead
 | val (τ : Ty) (x : τ.den)
 | ref (id : Nat) (p : List Step)
 | addr (id : Nat) (p : List Step)
 | view (id : Nat) (p : List Step) (lo hi : Nat)
 | app (id : Nat) (p : List Step) (τ : Ty) (ys : List τ.den) (own : List Nat)
 | cv (v : Value)
 | tup (l : List AV)
 | agg (l : List AV)
 | clo (f : Nat) (l : List AV)
abbrev Tree := (τ : Ty) × τ.den
structure St where
 g : List (Nat × AV)
 h : List (Nat × Tree)
def lk {α : Type} : List (Nat × α) → Nat → Option α
 | [], _ => none
 | (k, v) :: r, n => bif Nat.beq k n then some v else lk r n
theorem lk_cons {α : Type} (k : Nat) (v : α) (r : List (Nat × α)) (n : Nat) : lk ((k, v) :: r) n = if k = n then some v else lk r n := by
 show (bif Nat.beq k n then some v else lk r n) = _
 by_cases h : k = n
 ·rw [if_pos h, h]; simp
 ·rw [if_neg h]
  have : Nat.beq k n = false := by
   cases hb : Nat.beq k n
   ·rfl
   ·exact absurd (Nat.eq_of_beq_eq_true hb) h
  rw [this]; rfl
def gt (g : List (Nat × AV)) (n : Nat) : AV := match lk g n with | some v => v | none => .dead
structure Ctx where
 I0 : Nat → Prop
 B : Nat → Prop
 F0 : Nat → Prop
 w0 : World
 n : Nat
 pin : List Nat
 vs : Nat → Value
def Ctx.ok (C : Ctx) (d : Nat) : Prop := d < C.n ∧ d ∉ C.pin
inductive AVok (M : Md → Nat → Prop) (w : World) (h : List (Nat × Tree)) (rt : Nat → List Value) (fp : Nat → List Nat) : AV → Value → Prop
 | dead (v : Value) : AVok M w h rt fp .dead v
 | cv (v : Value) : AVok M w h rt fp (.cv v) v
 | val {τ : Ty} {x : τ.den} {cs : List Value} (r : Rep M w τ cs x []) : AVok M w h rt fp (.val τ x) (regV τ cs)
 | ref {id : Nat} {p : List Step} {t : Tree} {τ' : Ty} {loc : Loc} {cs : List Value} (ht : lk h id = some t) (hn : Nav w t.1 none (rt id) p τ' loc cs) : AVok M w h rt fp (.ref id p) (regV τ' cs)
 | addr {id : Nat} {p : List Step} {t : Tree} {τ' : Ty} {b o : Nat} {cs : List Value} (ht : lk h id = some t) (hn : Nav w t.1 none (rt id) p τ' (some (b, o)) cs) : AVok M w h rt fp (.addr id p) (.pointer (some ⟨b, o, none⟩))
 | view {id : Nat} {p : List Step} {lo hi : Nat} {t : Tree} {τ' : Ty} {loc : Loc} {b o len cap : Nat} (ht : lk h id = some t) (hn : Nav w t.1 none (rt id) p (.osl τ') loc [.slice (some ⟨b, o, none⟩) len cap])
    (h1 : lo ≤ hi) (h2 : hi ≤ len) (h3 : len ≤ cap) : AVok M w h rt fp (.view id p lo hi) (.slice (some ⟨b, if cap = lo then o else o + lo * τ'.size, none⟩) (hi - lo) (cap - lo))
 | viewE (id : Nat) (p : List Step) : AVok M w h rt fp (.view id p 0 0) (.slice none 0 0)
 | app {id : Nat} {p : List Step} {τ : Ty} {ys : List τ.den} {own : List Nat} {t : Tree} {loc : Loc} {c0 : List Value} {xs : List τ.den} {f1 f2 : List Nat} {v : Value} (ht : lk h id = some t) (hnb : τ.nb = true)
    (hn : Nav w t.1 none (rt id) p (.osl τ) loc c0) (hg : GetP t.1 t.2 p (.osl τ) xs) (h1 : Rep M w (.osl τ) c0 xs f1) (hf1 : ∀ b ∈ f1, b ∈ fp id) (h2 : Rep M w (.osl τ) [v] (xs ++ ys) f2)
    (hown : ∀ i ∈ own, i ≠ id ∧ ∃ u, lk h i = some u) (hsub : ∀ b ∈ f2, b ∈ f1 ∨ ∃ i ∈ own, b ∈ fp i) (hnd : f2.Nodup) : AVok M w h rt fp (.app id p τ ys own) v
 | tup {l : List AV} {vs : Array Value} (hl : l.length = vs.size) (hh : ∀ (i : Nat) (a : AV) (v : Value), l[i]? = some a → vs[i]? = some v → AVok M w h rt fp a v) : AVok M w h rt fp (.tup l) (.tuple vs)
 | agg {l : List AV} {vs : List Value} (hl : l.length = vs.length) (hh : ∀ (i : Nat) (a : AV) (v : Value), l[i]? = some a → vs[i]? = some v → AVok M w h rt fp a v) :
    AVok M w h rt fp (.agg l) (.agg (vs.map fun v => v.cells.toList).flatten.toArray)
 | clo {f : Nat} {l : List AV} {vs : Array Value} (hl : l.length = vs.size) (hh : ∀ (i : Nat) (a : AV) (v : Value), l[i]? = some a → vs[i]? = some v → AVok M w h rt fp a v) : AVok M w h rt fp (.clo f l) (.func (.func f) #[] vs)
structure RelAt (C : Ctx) (st : St) (tm : Array Value) (w : World) (I : Nat → Prop) (rt : Nat → List Value) (fp : Nat → List Nat) : Prop where
 n : tm.size = C.n
 i0 : ∀ b, C.I0 b → I b
 i1 : ∀ b, I b → C.I0 b ∨ C.w0.heap.size ≤ b ∨ C.F0 b
 ib : ∀ b, I b ∨ C.B b → b < w.heap.size
 tree : ∀ id t, lk st.h id = some t → Rep (md I C.B) w t.1 (rt id) t.2 (fp id) ∧ (fp id).Nodup ∧ ∀ b ∈ fp id, ¬ I b ∧ ¬ C.B b ∧ b < w.heap.size ∧ (C.w0.heap.size ≤ b ∨ C.F0 b)
 dis : ∀ i j t u, lk st.h i = some t → lk st.h j = some u → i ≠ j → ∀ b ∈ fp i, b ∉ fp j
 tmp : ∀ k, AVok (md I C.B) w st.h rt fp (gt st.g k) (tm.getD k undef)
 frame : ∀ b, b < C.w0.heap.size → ¬ C.F0 b → w.heap[b]? = C.w0.heap[b]?
 evo : ∀ b, b < C.w0.heap.size → Evo C.w0 w b
 size : C.w0.heap.size ≤ w.heap.size
 os : w.os = C.w0.os
 tape : w.tape = C.w0.tape
 output : w.output = C.w0.output
 pin : ∀ k ∈ C.pin, tm.getD k undef = C.vs k
def Rel (C : Ctx) (st : St) (tm : Array Value) (w : World) : Prop := ∃ I rt fp, RelAt C st tm w I rt fp
structure Grew (w w' : World) : Prop where
 os : w'.os = w.os
 tape : w'.tape = w.tape
 output : w'.output = w.output
 size : w.heap.size ≤ w'.heap.size
 heap : ∀ b, b < w.heap.size → w'.heap[b]? = w.heap[b]?
theorem Grew.refl (w : World) : Grew w w := ⟨rfl, rfl, rfl, Nat.le_refl _, fun _ _ => rfl⟩
theorem Grew.trans {a b c : World} (h : Grew a b) (k : Grew b c) : Grew a c :=
 ⟨k.os.trans h.os, k.tape.trans h.tape, k.output.trans h.output, Nat.le_trans h.size k.size, fun i hi => (k.heap i (Nat.lt_of_lt_of_le hi h.size)).trans (h.heap i hi)⟩
theorem Grew.drew {a w : World} (h : Grew a w) : Grew a w.drew := ⟨h.os, h.tape, h.output, h.size, h.heap⟩
theorem Grew.alloc (w : World) (o : Obj) : Grew w (w.alloc o) := ⟨rfl, rfl, rfl, by simp, fun b hb => by
 show (w.heap.push o)[b]? = _
 rw [Array.getElem?_push, if_neg (by omega)]⟩
theorem AVok.mono {M M' : Md → Nat → Prop} {w w' : World} {h h' : List (Nat × Tree)} {rt rt' : Nat → List Value} {fp fp' : Nat → List Nat} (hM : ∀ m b, M m b → M' m b ∧ Sm w w' b)
  (hh : ∀ id t, lk h id = some t → Rep M w t.1 (rt id) t.2 (fp id) ∧ ∀ b ∈ fp id, Sm w w' b)
  {a : AV} {v : Value} (ha : AVok M w h rt fp a v)
  (hk : ∀ id t, lk h id = some t → lk h' id = some t ∧ rt' id = rt id ∧ fp' id = fp id) : AVok M' w' h' rt' fp' a v := by
 induction ha with
 | dead v => exact .dead v
 | cv v => exact .cv v
 | val r => exact .val (r.mono hM (by simp))
 | ref ht hn =>
   obtain ⟨k1, k2, _⟩ := hk _ _ ht
   exact .ref k1 (by rw [k2]; exact hn.sm (hh _ _ ht).1 (hh _ _ ht).2)
 | addr ht hn =>
   obtain ⟨k1, k2, _⟩ := hk _ _ ht
   exact .addr k1 (by rw [k2]; exact hn.sm (hh _ _ ht).1 (hh _ _ ht).2)
 | viewE id p => exact .viewE id p
 | view ht hn h1 h2 h3 =>
   obtain ⟨k1, k2, _⟩ := hk _ _ ht
   exact .view k1 (by rw [k2]; exact hn.sm (hh _ _ ht).1 (hh _ _ ht).2) h1 h2 h3
 | @app id p τ ys own t loc c0 xs f1 f2 v ht hnb hn hg h1 hf1 h2 hown hsub hnd =>
   obtain ⟨k1, k2, k3⟩ := hk _ _ ht
   obtain ⟨hr, hs⟩ := hh _ _ ht
   have hf2 : ∀ b ∈ f2, Sm w w' b := fun b hb => by
    rcases hsub b hb with hb | ⟨i, hi, hb⟩
    ·exact hs b (hf1 b hb)
    ·obtain ⟨_, u, hu⟩ := hown i hi
     exact (hh i u hu).2 b hb
   refine .app k1 hnb (by rw [k2]; exact hn.sm hr hs) hg (h1.mono hM (fun b hb => hs b (hf1 b hb))) (by rw [k3]; exact hf1) (h2.mono hM hf2) ?_ ?_ hnd
   ·intro i hi
    obtain ⟨q, u, hu⟩ := hown i hi
    exact ⟨q, u, (hk i u hu).1⟩
   ·intro b hb
    rcases hsub b hb with hb | ⟨i, hi, hb⟩
    ·exact .inl hb
    ·obtain ⟨_, u, hu⟩ := hown i hi
     exact .inr ⟨i, hi, by rw [(hk i u hu).2.2]; exact hb⟩
 | tup hl _ ih => exact .tup hl (fun i a v h1 h2 => ih i a v h1 h2)
 | agg hl _ ih => exact .agg hl (fun i a v h1 h2 => ih i a v h1 h2)
 | clo hl _ ih => exact .clo hl (fun i a v h1 h2 => ih i a v h1 h2)
end Go.Fw
end
section
namespace Go.Fw
def opA (g : List (Nat × AV)) : Operand → AV
 | .tmp t => gt g t
 | .const (.int k n) => .val (.int k) n
 | .const (.bool b) => .val .bool b
 | .const (.string s) => .val .str s
 | .const v => .cv v
 | .func f => .clo f []
 | .global _ => .dead
theorem AVok.int {M : Md → Nat → Prop} {w : World} {h : List (Nat × Tree)} {rt : Nat → List Value} {fp : Nat → List Nat} (k : IntKind) (n : Int) : AVok M w h rt fp (.val (.int k) n) (.int k n) :=
 .val (τ := .int k) (cs := [.int k n]) ⟨rfl, rfl⟩
theorem AVok.bool {M : Md → Nat → Prop} {w : World} {h : List (Nat × Tree)} {rt : Nat → List Value} {fp : Nat → List Nat} (b : Bool) : AVok M w h rt fp (.val .bool b) (.bool b) :=
 .val (τ := .bool) (cs := [.bool b]) ⟨rfl, rfl⟩
theorem AVok.str {M : Md → Nat → Prop} {w : World} {h : List (Nat × Tree)} {rt : Nat → List Value} {fp : Nat → List Nat} (s : ByteArray) : AVok M w h rt fp (.val .str s) (.string s) :=
 .val (τ := .str) (cs := [.string s]) ⟨rfl, rfl⟩
theorem RelAt.opA {C : Ctx} {st : St} {a : Act} {w : World} {I : Nat → Prop} {rt : Nat → List Value} {fp : Nat → List Nat} (h : RelAt C st a.tmps w I rt fp) (x : Operand) :
  AVok (md I C.B) w st.h rt fp (opA st.g x) (a.eval x) := by
 cases x with
 | tmp t => exact h.tmp t
 | const v =>
   cases v <;> simp only [Fw.opA, Act.eval]
   case int k n => exact .int k n
   case bool b => exact .bool b
   case string s => exact .str s
   all_goals exact .cv _
 | func f => exact .clo (vs := #[]) (by simp) (by simp)
 | global g => exact .dead _
theorem lk_append {α : Type} : ∀ (l r : List (Nat × α)) (n : Nat), lk (l ++ r) n = (lk l n).or (lk r n)
 | [], r, n => by simp [lk]
 | (k, v) :: l, r, n => by
   rw [List.cons_append, lk_cons, lk_cons, lk_append l r n]
   split <;> simp
theorem gt_cons (d : Nat) (av : AV) (g : List (Nat × AV)) (k : Nat) : gt ((d, av) :: g) k = if d = k then av else gt g k := by
 unfold gt
 rw [lk_cons]
 by_cases h : d = k <;> simp [h]
theorem RelAt.put {C : Ctx} {st : St} {tm : Array Value} {w : World} {I : Nat → Prop} {rt : Nat → List Value} {fp : Nat → List Nat} (h : RelAt C st tm w I rt fp) {d : Nat} (hd : C.ok d) {av : AV} {v : Value}
  (hv : AVok (md I C.B) w st.h rt fp av v) : RelAt C ⟨(d, av) :: st.g, st.h⟩ (tm.setIfInBounds d v) w I rt fp where
 n := by simpa using h.n
 i0 := h.i0
 i1 := h.i1
 ib := h.ib
 tree := h.tree
 dis := h.dis
 tmp := fun k => by
  show AVok _ _ _ _ _ (gt ((d, av) :: st.g) k) _
  unfold gt
  rw [lk_cons]
  have hs : d < tm.size := by rw [h.n]; exact hd.1
  by_cases hk : d = k
  ·subst hk
   rw [if_pos rfl]
   have : (tm.setIfInBounds d v).getD d undef = v := by simp [Array.getD, hs]
   rw [this]
   exact hv
  ·rw [if_neg hk]
   have : (tm.setIfInBounds d v).getD k undef = tm.getD k undef := by
    simp only [Array.getD_eq_getD_getElem?, Array.getElem?_setIfInBounds_ne hk]
   rw [this]
   exact h.tmp k
 frame := h.frame
 evo := h.evo
 size := h.size
 os := h.os
 tape := h.tape
 output := h.output
 pin := fun k hk => by
  have : d ≠ k := fun e => hd.2 (e ▸ hk)
  rw [← h.pin k hk]
  simp only [Array.getD_eq_getD_getElem?, Array.getElem?_setIfInBounds_ne this]
structure NewOk (C : Ctx) (st : St) (w w' : World) (I' : Nat → Prop) (new : List (Nat × Tree)) (rtn : Nat → List Value) (fpn : Nat → List Nat) : Prop where
 tree : ∀ id t, lk new id = some t → lk st.h id = none ∧ Rep (md I' C.B) w' t.1 (rtn id) t.2 (fpn id) ∧ (fpn id).Nodup ∧ ∀ b ∈ fpn id, w.heap.size ≤ b ∧ b < w'.heap.size ∧ ¬ I' b
 dis : ∀ i j t u, lk new i = some t → lk new j = some u → i ≠ j → ∀ b ∈ fpn i, b ∉ fpn j
theorem NewOk.nil {C : Ctx} {st : St} {w w' : World} {I' : Nat → Prop} {rtn : Nat → List Value} {fpn : Nat → List Nat} : NewOk C st w w' I' [] rtn fpn :=
 ⟨(fun _ _ h => by cases h), (fun _ _ _ _ h => by cases h)⟩
theorem NewOk.one {C : Ctx} {st : St} {w w' : World} {I' : Nat → Prop} {id : Nat} {t : Tree} {cs : List Value} {f : List Nat} (hn : lk st.h id = none) (hr : Rep (md I' C.B) w' t.1 cs t.2 f) (hf : f.Nodup)
  (hb : ∀ b ∈ f, w.heap.size ≤ b ∧ b < w'.heap.size ∧ ¬ I' b) : NewOk C st w w' I' [(id, t)] (fun _ => cs) (fun _ => f) where
 tree := fun i u h => by
  rw [lk_cons] at h
  split at h
  ·rename_i e; subst e; obtain rfl := Option.some.inj h; exact ⟨hn, hr, hf, hb⟩
  ·cases h
 dis := fun i j t' u h1 h2 hij => by
  rw [lk_cons] at h1 h2
  split at h1
  ·split at h2
   ·rename_i e1 e2; exact absurd (e1.symm.trans e2) hij
   ·cases h2
  ·cases h1
def mixv (new : List (Nat × Tree)) {α : Type} (a b : Nat → α) : Nat → α := fun id => match lk new id with | some _ => a id | none => b id
theorem RelAt.ext {C : Ctx} {st : St} {tm : Array Value} {w w' : World} {I I' : Nat → Prop} {rt rtn : Nat → List Value} {fp fpn : Nat → List Nat} (h : RelAt C st tm w I rt fp) (hg : Grew w w')
  (hI : ∀ b, I b → I' b) (hI2 : ∀ b, I' b → I b ∨ (w.heap.size ≤ b ∧ b < w'.heap.size)) {new : List (Nat × Tree)} (hn : NewOk C st w w' I' new rtn fpn) :
  RelAt C ⟨st.g, new ++ st.h⟩ tm w' I' (mixv new rtn rt) (mixv new fpn fp) := by
 have hM : ∀ m b, md I C.B m b → md I' C.B m b ∧ Sm w w' b := fun m b hb => by
  refine ⟨?_, .of_heap (hg.heap b (h.ib b (md_or hb)))⟩
  cases m
  ·exact hI b hb
  ·exact hb.imp (hI b) id
 have hold : ∀ id t, lk st.h id = some t → lk (new ++ st.h) id = some t ∧ mixv new rtn rt id = rt id ∧ mixv new fpn fp id = fp id := fun id t ht => by
  have : lk new id = none := by
   cases hh : lk new id with
   | none => rfl
   | some u => have := (hn.tree id u hh).1; rw [ht] at this; cases this
  refine ⟨by rw [lk_append, this, ht]; rfl, by simp [mixv, this], by simp [mixv, this]⟩
 have hcase : ∀ id t, lk (new ++ st.h) id = some t → (lk new id = some t ∧ mixv new rtn rt id = rtn id ∧ mixv new fpn fp id = fpn id) ∨ (lk st.h id = some t ∧ mixv new rtn rt id = rt id ∧ mixv new fpn fp id = fp id) := fun id t ht => by
  rw [lk_append] at ht
  cases hh : lk new id with
  | none => rw [hh] at ht; exact .inr ⟨by simpa using ht, by simp [mixv, hh], by simp [mixv, hh]⟩
  | some u => rw [hh] at ht; exact .inl ⟨by simpa using ht, by simp [mixv, hh], by simp [mixv, hh]⟩
 have hbs : ∀ id t, lk st.h id = some t → ∀ b ∈ fp id, Sm w w' b := fun id t ht b hb => .of_heap (hg.heap b ((h.tree id t ht).2.2 b hb).2.2.1)
 refine { n := h.n, i0 := fun b hb => hI b (h.i0 b hb), i1 := ?_, ib := ?_, tree := ?_, dis := ?_, tmp := ?_, frame := ?_, evo := fun b hb => (h.evo b hb).trans (.of_heap (hg.heap b (Nat.lt_of_lt_of_le hb h.size))), size := Nat.le_trans h.size hg.size, os := hg.os.trans h.os, tape := hg.tape.trans h.tape, output := hg.output.trans h.output, pin := h.pin }
 ·intro b hb
  rcases hI2 b hb with hb | ⟨hb, _⟩
  ·exact h.i1 b hb
  ·exact .inr (.inl (Nat.le_trans h.size hb))
 ·intro b hb
  rcases hb with hb | hb
  ·rcases hI2 b hb with hb | ⟨_, hb⟩
   ·exact Nat.lt_of_lt_of_le (h.ib b (.inl hb)) hg.size
   ·exact hb
  ·exact Nat.lt_of_lt_of_le (h.ib b (.inr hb)) hg.size
 ·intro id t ht
  rcases hcase id t ht with ⟨h1, h2, h3⟩ | ⟨h1, h2, h3⟩
  ·obtain ⟨_, q1, q2, q3⟩ := hn.tree id t h1
   rw [h2, h3]
   refine ⟨q1, q2, fun b hb => ?_⟩
   obtain ⟨r1, r2, r3⟩ := q3 b hb
   exact ⟨r3, fun hB => by have := h.ib b (.inr hB); omega, r2, .inl (Nat.le_trans h.size r1)⟩
  ·obtain ⟨q1, q2, q3⟩ := h.tree id t h1
   rw [h2, h3]
   refine ⟨q1.mono hM (hbs id t h1), q2, fun b hb => ?_⟩
   obtain ⟨r1, r2, r3, r4⟩ := q3 b hb
   exact ⟨fun hb' => (hI2 b hb').elim r1 (fun q => by omega), r2, Nat.lt_of_lt_of_le r3 hg.size, r4⟩
 ·intro i j t u hi hj hij b hb
  rcases hcase i t hi with ⟨h1, _, h3⟩ | ⟨h1, _, h3⟩ <;> rcases hcase j u hj with ⟨k1, _, k3⟩ | ⟨k1, _, k3⟩ <;> rw [h3] at hb <;> rw [k3]
  ·exact hn.dis i j t u h1 k1 hij b hb
  ·intro hb'
   have := ((hn.tree i t h1).2.2.2 b hb).1
   have := ((h.tree j u k1).2.2 b hb').2.2.1
   omega
  ·intro hb'
   have := ((hn.tree j u k1).2.2.2 b hb').1
   have := ((h.tree i t h1).2.2 b hb).2.2.1
   omega
  ·exact h.dis i j t u h1 k1 hij b hb
 ·intro k
  exact (h.tmp k).mono hM (fun id t ht => ⟨(h.tree id t ht).1, hbs id t ht⟩) hold
 ·intro b hb hF
  rw [hg.heap b (Nat.lt_of_lt_of_le hb h.size)]
  exact h.frame b hb hF
theorem RelAt.grew {C : Ctx} {st : St} {tm : Array Value} {w w' : World} {I : Nat → Prop} {rt : Nat → List Value} {fp : Nat → List Nat} (h : RelAt C st tm w I rt fp) (hg : Grew w w') :
  RelAt C st tm w' I rt fp := by
 have := h.ext (rtn := rt) (fpn := fp) hg (fun _ h => h) (fun _ h => .inl h) (new := []) .nil
 exact this
def covG : List (Nat × AV) → St → Prop
 | [], _ => True
 | (k, av) :: r, st => gt st.g k = av ∧ covG r st
def covH : List (Nat × Tree) → St → Prop
 | [], _ => True
 | (k, t) :: r, st => lk st.h k = some t ∧ covH r st
theorem covG.get {r : List (Nat × AV)} {st : St} (h : covG r st) : ∀ k, gt r k = .dead ∨ gt r k = gt st.g k := by
 induction r with
 | nil => exact fun k => .inl rfl
 | cons q r ih =>
   obtain ⟨k0, av⟩ := q
   intro k
   rw [gt_cons]
   split
   ·rename_i e; subst e; exact .inr h.1.symm
   ·exact ih h.2 k
theorem covH.get {r : List (Nat × Tree)} {st : St} (h : covH r st) : ∀ k t, lk r k = some t → lk st.h k = some t := by
 induction r with
 | nil => intro k t h; cases h
 | cons q r ih =>
   obtain ⟨k0, av⟩ := q
   intro k t ht
   rw [lk_cons] at ht
   split at ht
   ·rename_i e; subst e; rw [← ht]; exact h.1
   ·exact ih h.2 k t ht
mutual
def AV.ids : AV → List Nat
 | .dead | .val _ _ | .cv _ => []
 | .ref id _ | .addr id _ | .view id _ _ _ => [id]
 | .app id _ _ _ own => id :: own
 | .tup l | .agg l | .clo _ l => AV.idsL l
def AV.idsL : List AV → List Nat
 | [] => []
 | a :: r => a.ids ++ AV.idsL r
end
theorem AV.mem_idsL {l : List AV} {i : Nat} {a : AV} (h : l[i]? = some a) {id : Nat} (hid : id ∈ a.ids) : id ∈ AV.idsL l := by
 induction l generalizing i with
 | nil => simp at h
 | cons x r ih =>
   simp only [AV.idsL, List.mem_append]
   cases i with
   | zero => simp at h; subst h; exact .inl hid
   | succ i => simp at h; exact .inr (ih h)
theorem AVok.monoOn {M M' : Md → Nat → Prop} {w w' : World} {h h' : List (Nat × Tree)} {rt rt' : Nat → List Value} {fp fp' : Nat → List Nat} (hM : ∀ m b, M m b → M' m b ∧ Sm w w' b)
  {a : AV} {v : Value} (ha : AVok M w h rt fp a v)
  (hk : ∀ id ∈ a.ids, ∀ t, lk h id = some t → lk h' id = some t ∧ rt' id = rt id ∧ fp' id = fp id ∧ Rep M w t.1 (rt id) t.2 (fp id) ∧ ∀ b ∈ fp id, Sm w w' b) : AVok M' w' h' rt' fp' a v := by
 induction ha with
 | dead v => exact .dead v
 | cv v => exact .cv v
 | val r => exact .val (r.mono hM (by simp))
 | ref ht hn =>
   obtain ⟨k1, k2, _, k4, k5⟩ := hk _ (by simp [AV.ids]) _ ht
   exact .ref k1 (by rw [k2]; exact hn.sm k4 k5)
 | addr ht hn =>
   obtain ⟨k1, k2, _, k4, k5⟩ := hk _ (by simp [AV.ids]) _ ht
   exact .addr k1 (by rw [k2]; exact hn.sm k4 k5)
 | viewE id p => exact .viewE id p
 | view ht hn h1 h2 h3 =>
   obtain ⟨k1, k2, _, k4, k5⟩ := hk _ (by simp [AV.ids]) _ ht
   exact .view k1 (by rw [k2]; exact hn.sm k4 k5) h1 h2 h3
 | @app id p τ ys own t loc c0 xs f1 f2 v ht hnb hn hg h1 hf1 h2 hown hsub hnd =>
   obtain ⟨k1, k2, k3, hr, hs⟩ := hk _ (by simp [AV.ids]) _ ht
   have hf2 : ∀ b ∈ f2, Sm w w' b := fun b hb => by
    rcases hsub b hb with hb | ⟨i, hi, hb⟩
    ·exact hs b (hf1 b hb)
    ·obtain ⟨_, u, hu⟩ := hown i hi
     exact (hk i (by simp [AV.ids, hi]) u hu).2.2.2.2 b hb
   refine .app k1 hnb (by rw [k2]; exact hn.sm hr hs) hg (h1.mono hM (fun b hb => hs b (hf1 b hb))) (by rw [k3]; exact hf1) (h2.mono hM hf2) ?_ ?_ hnd
   ·intro i hi
    obtain ⟨q, u, hu⟩ := hown i hi
    exact ⟨q, u, (hk i (by simp [AV.ids, hi]) u hu).1⟩
   ·intro b hb
    rcases hsub b hb with hb | ⟨i, hi, hb⟩
    ·exact .inl hb
    ·obtain ⟨_, u, hu⟩ := hown i hi
     exact .inr ⟨i, hi, by rw [(hk i (by simp [AV.ids, hi]) u hu).2.2.1]; exact hb⟩
 | tup hl _ ih => exact .tup hl (fun i a v h1 h2 => ih i a v h1 h2 (fun id hid => hk id (AV.mem_idsL h1 hid)))
 | agg hl _ ih => exact .agg hl (fun i a v h1 h2 => ih i a v h1 h2 (fun id hid => hk id (AV.mem_idsL h1 hid)))
 | clo hl _ ih => exact .clo hl (fun i a v h1 h2 => ih i a v h1 h2 (fun id hid => hk id (AV.mem_idsL h1 hid)))
theorem RelAt.cov {C : Ctx} {st st' : St} {tm : Array Value} {w : World} {I : Nat → Prop} {rt : Nat → List Value} {fp : Nat → List Nat} (h : RelAt C st tm w I rt fp)
  (hg : covG st'.g st) (hh : covH st'.h st) (hid : ∀ k, ∀ id ∈ (gt st'.g k).ids, (lk st'.h id).isSome = true) : RelAt C st' tm w I rt fp where
 n := h.n
 i0 := h.i0
 i1 := h.i1
 ib := h.ib
 tree := fun id t ht => h.tree id t (hh.get id t ht)
 dis := fun i j t u hi hj => h.dis i j t u (hh.get i t hi) (hh.get j u hj)
 tmp := fun k => by
  rcases hg.get k with e | e
  ·rw [e]; exact .dead _
  ·have := hid k
   rw [e] at this ⊢
   refine (h.tmp k).monoOn (fun m b hb => ⟨hb, Sm.refl w b⟩) (fun id hi t ht => ?_)
   obtain ⟨u, hu⟩ := Option.isSome_iff_exists.1 (this id hi)
   have := hh.get id u hu
   rw [ht] at this
   obtain rfl := Option.some.inj this
   exact ⟨hu, rfl, rfl, (h.tree id t ht).1, fun b _ => Sm.refl w b⟩
 frame := h.frame
 evo := h.evo
 size := h.size
 os := h.os
 tape := h.tape
 output := h.output
 pin := h.pin
def idsIn (g : List (Nat × AV)) (h : List (Nat × Tree)) : Bool := g.all fun q => q.2.ids.all fun id => (lk h id).isSome
theorem idsIn.get {g : List (Nat × AV)} {h : List (Nat × Tree)} (hh : idsIn g h = true) (k : Nat) : ∀ id ∈ (gt g k).ids, (lk h id).isSome = true := by
 intro id hid
 unfold gt at hid
 cases hk : lk g k with
 | none => rw [hk] at hid; simp [AV.ids] at hid
 | some av =>
   rw [hk] at hid
   have hm : (k, av) ∈ g := by
    clear hh hid
    induction g with
    | nil => cases hk
    | cons q r ih =>
      obtain ⟨k0, a0⟩ := q
      rw [lk_cons] at hk
      split at hk
      ·rename_i e; subst e; obtain rfl := Option.some.inj hk; simp
      ·exact List.mem_cons_of_mem _ (ih hk)
   simp only [idsIn, List.all_eq_true] at hh
   exact hh (k, av) hm id hid
end Go.Fw
end
section
namespace Go.Fw
mutual
def TyF (P : Program) : Ty → TypeId → Prop
 | .int k, T => ∃ i, P.info? T = some i ∧ i.size = 1 ∧ i.bytes ≤ 24 ∧ i.zero = some (.int k 0) ∧ P.underlying T = some (.int k)
 | .bool, T => ∃ i, P.info? T = some i ∧ i.size = 1 ∧ i.bytes ≤ 24 ∧ i.zero = some (.bool false) ∧ P.underlying T = some .bool
 | .str, T => ∃ i, P.info? T = some i ∧ i.size = 1 ∧ i.bytes ≤ 24 ∧ i.zero = some (.string ByteArray.empty) ∧ P.underlying T = some .string
 | .slc _ t, T => ∃ i E, P.info? T = some i ∧ i.size = 1 ∧ i.bytes ≤ 24 ∧ i.zero = some (.slice none 0 0) ∧ P.underlying T = some (.slice E) ∧ TyF P t E
 | .osl t, T => ∃ i E, P.info? T = some i ∧ i.size = 1 ∧ i.bytes ≤ 24 ∧ i.zero = some (.slice none 0 0) ∧ P.underlying T = some (.slice E) ∧ TyF P t E
 | .ptr _ t, T => ∃ i E, P.info? T = some i ∧ i.size = 1 ∧ i.bytes ≤ 24 ∧ i.zero = some (.pointer none) ∧ P.underlying T = some (.pointer E) ∧ TyF P t E
 | .optr t, T => ∃ i E, P.info? T = some i ∧ i.size = 1 ∧ i.bytes ≤ 24 ∧ i.zero = some (.pointer none) ∧ P.underlying T = some (.pointer E) ∧ TyF P t E
 | .st t, T => 0 < t.size ∧ ∃ i fs zs, P.info? T = some i ∧ i.size = t.size ∧ i.bytes ≤ 24 * t.size ∧ i.zero = some (.agg zs) ∧ P.underlying T = some (.struct fs) ∧ FldF P t fs.toList 0 zs.toList ∧ zs.size = t.size
 | .mp t, T => ∃ i K E, P.info? T = some i ∧ i.size = 1 ∧ i.bytes ≤ 24 ∧ i.zero = some (.map none) ∧ P.underlying T = some (.map K E) ∧ P.underlying K = some (.int .i64) ∧ TyF P t E
 | .vm _ t, T => ∃ i K E, P.info? T = some i ∧ i.size = 1 ∧ i.bytes ≤ 24 ∧ i.zero = some (.map none) ∧ P.underlying T = some (.map K E) ∧ P.underlying K = some (.int .i64) ∧ TyF P t E
 | _, _ => False
def FldF (P : Program) : Ty → List Field → Nat → List Value → Prop
 | .pr a b, f :: r, off, zs => f.offset = off ∧ TyF P a f.type ∧ 0 < a.size ∧ (∃ i z, P.info? f.type = some i ∧ i.zero = some z ∧ zs.take a.size = z.cells.toList) ∧ FldF P b r (off + a.size) (zs.drop a.size)
 | .nil, [], _, zs => zs = []
 | _, _, _, _ => False
end
def isSt : Ty → Bool
 | .st _ => true
 | _ => false
structure TyI (P : Program) (τ : Ty) (T : TypeId) (i : TypeInfo) : Prop where
 info : P.info? T = some i
 size : i.size = τ.size
 bytes : i.bytes ≤ 24 * τ.size
 pos : 0 < τ.size
theorem TyF.info {P : Program} : ∀ {τ : Ty} {T : TypeId}, TyF P τ T → ∃ i d, TyI P τ T i ∧ P.underlying T = some d ∧ (match d with | .struct _ | .array _ _ => true | _ => false) = isSt τ
 | .int _, _, ⟨i, h1, h2, h3, _, h5⟩ => ⟨i, _, ⟨h1, h2, h3, by simp [Ty.size]⟩, h5, rfl⟩
 | .bool, _, ⟨i, h1, h2, h3, _, h5⟩ => ⟨i, _, ⟨h1, h2, h3, by simp [Ty.size]⟩, h5, rfl⟩
 | .str, _, ⟨i, h1, h2, h3, _, h5⟩ => ⟨i, _, ⟨h1, h2, h3, by simp [Ty.size]⟩, h5, rfl⟩
 | .slc _ _, _, ⟨i, _, h1, h2, h3, _, h5, _⟩ => ⟨i, _, ⟨h1, h2, h3, by simp [Ty.size]⟩, h5, rfl⟩
 | .osl _, _, ⟨i, _, h1, h2, h3, _, h5, _⟩ => ⟨i, _, ⟨h1, h2, h3, by simp [Ty.size]⟩, h5, rfl⟩
 | .ptr _ _, _, ⟨i, _, h1, h2, h3, _, h5, _⟩ => ⟨i, _, ⟨h1, h2, h3, by simp [Ty.size]⟩, h5, rfl⟩
 | .optr _, _, ⟨i, _, h1, h2, h3, _, h5, _⟩ => ⟨i, _, ⟨h1, h2, h3, by simp [Ty.size]⟩, h5, rfl⟩
 | .st t, _, ⟨h0, i, _, _, h1, h2, h3, _, h5, _⟩ => ⟨i, _, ⟨h1, h2, h3, h0⟩, h5, rfl⟩
 | .pr _ _, _, h => h.elim
 | .nil, _, h => h.elim
 | .blk, _, h => h.elim
 | .mp _, _, ⟨i, _, _, h1, h2, h3, _, h5, _⟩ => ⟨i, _, ⟨h1, h2, h3, by simp [Ty.size]⟩, h5, rfl⟩
 | .vm _ _, _, ⟨i, _, _, h1, h2, h3, _, h5, _⟩ => ⟨i, _, ⟨h1, h2, h3, by simp [Ty.size]⟩, h5, rfl⟩
theorem TyF.hasZero {P : Program} : ∀ {τ : Ty} {T : TypeId}, TyF P τ T → ∃ z, z.cells.size = τ.size ∧ ∀ i, P.info? T = some i → i.zero = some z
 | .int _, _, ⟨i, h1, _, _, h4, _⟩ | .bool, _, ⟨i, h1, _, _, h4, _⟩ | .str, _, ⟨i, h1, _, _, h4, _⟩ => ⟨_, rfl, fun j hj => by rw [h1] at hj; cases hj; exact h4⟩
 | .slc _ _, _, ⟨i, _, h1, _, _, h4, _⟩ | .osl _, _, ⟨i, _, h1, _, _, h4, _⟩ | .ptr _ _, _, ⟨i, _, h1, _, _, h4, _⟩ | .optr _, _, ⟨i, _, h1, _, _, h4, _⟩ => ⟨_, rfl, fun j hj => by rw [h1] at hj; cases hj; exact h4⟩
 | .st t, _, ⟨h0, i, _, zs, h1, h2, h3, h4, h5, _, h7⟩ => ⟨.agg zs, h7, fun j hj => by rw [h1] at hj; cases hj; exact h4⟩
 | .pr _ _, _, h => h.elim
 | .nil, _, h => h.elim
 | .blk, _, h => h.elim
 | .mp _, _, ⟨i, _, _, h1, _, _, h4, _⟩ => ⟨_, rfl, fun j hj => by rw [h1] at hj; cases hj; exact h4⟩
 | .vm _ _, _, ⟨i, _, _, h1, _, _, h4, _⟩ => ⟨_, rfl, fun j hj => by rw [h1] at hj; cases hj; exact h4⟩
section
variable {P : Program} {τ : Ty} {T : TypeId}
theorem TyF.sizeOf (h : TyF P τ T) (w : World) : (Go.sizeOf T).run P w = .ok τ.size w := by
 obtain ⟨i, d, hi, _⟩ := h.info
 simp [Go.sizeOf, typeInfo, hi.info, hi.size]
theorem TyF.isAgg (h : TyF P τ T) (w : World) : (Go.isAgg T).run P w = .ok (isSt τ) w := by
 obtain ⟨i, d, hi, hu, hd⟩ := h.info
 simp only [Go.isAgg, Sem.run_bind, run_underlying hu, Result.andThen_ok]
 rw [← hd]
 cases d <;> rfl
theorem TyF.pos (h : TyF P τ T) : 0 < τ.size := by
 obtain ⟨i, d, hi, _⟩ := h.info
 exact hi.pos
theorem one_of_not_st : ∀ {τ : Ty} {T : TypeId}, TyF P τ T → isSt τ = false → τ.size = 1
 | .int _, _, _, _ | .bool, _, _, _ | .str, _, _, _ | .slc _ _, _, _, _ | .osl _, _, _, _ | .ptr _ _, _, _, _ | .optr _, _, _, _ | .mp _, _, _, _ | .vm _ _, _, _, _ => rfl
 | .st _, _, _, h => by cases h
 | .pr _ _, _, h, _ => h.elim
 | .nil, _, h, _ => h.elim
 | .blk, _, h, _ => h.elim
theorem regV_of_not_st {cs : List Value} (h : isSt τ = false) : regV τ cs = cs.headD undef := by
 cases τ <;> first | rfl | cases h
theorem regV_of_st {cs : List Value} (h : isSt τ = true) : regV τ cs = .agg cs.toArray := by
 cases τ <;> first | rfl | cases h
theorem regV_cells {cs : List Value} (h : TyF P τ T) (hl : cs.length = τ.size) (h1 : ∀ v ∈ cs, v.oneCell' = true) : (regV τ cs).cells = cs.toArray := by
 cases hs : isSt τ with
 | true => rw [regV_of_st hs]; rfl
 | false =>
   rw [regV_of_not_st hs]
   rw [one_of_not_st h hs] at hl
   obtain ⟨v, rfl⟩ := List.length_eq_one_iff.1 hl
   have := h1 v (by simp)
   cases v <;> first | rfl | (simp [Value.oneCell'] at this)
theorem run_loadVar {w : World} {b o : Nat} {cs : List Value} (h : TyF P τ T) (ha : At w b o cs) (hl : cs.length = τ.size) : (loadVar T ⟨b, o, none⟩).run P w = .ok (regV τ cs) w := by
 simp only [loadVar, Sem.run_bind, h.isAgg, Result.andThen_ok]
 cases hs : isSt τ with
 | true =>
   simp only [if_true, Sem.run_bind, h.sizeOf, Result.andThen_ok]
   rw [← hl, run_loadCells_list w ⟨b, o, none⟩ cs (fun j v hj => by rw [Addr.add_lit]; exact ha j v hj)]
   rw [regV_of_st hs]
   rfl
 | false =>
   rw [one_of_not_st h hs] at hl
   obtain ⟨v, rfl⟩ := List.length_eq_one_iff.1 hl
   have := ha 0 v rfl
   simp only [Nat.add_zero] at this
   rw [regV_of_not_st hs]
   simp [this]
end
def zeroD : (τ : Ty) → Option τ.den
 | .int _ => some (0 : Int)
 | .bool => some false
 | .str => some ByteArray.empty
 | .slc _ _ => some []
 | .osl _ => some []
 | .ptr _ _ => some none
 | .optr _ => none
 | .st t => zeroD t
 | .pr a b => match zeroD a, zeroD b with | some x, some y => some (x, y) | _, _ => none
 | .nil => some ()
 | .blk => none
 | .mp _ => some none
 | .vm _ _ => some none
mutual
theorem zero_rep {P : Program} : ∀ {τ : Ty} {T : TypeId} {z : τ.den}, TyF P τ T → zeroD τ = some z → ∃ i zv, P.info? T = some i ∧ i.zero = some zv ∧ zv = regV τ zv.cells.toList ∧ ∀ (M : Md → Nat → Prop) (w : World), Rep M w τ zv.cells.toList z []
 | .int k, _, z, ⟨i, h1, h2, h3, h4, h5⟩, hz => ⟨i, _, h1, h4, rfl, fun M w => by cases hz; exact ⟨rfl, rfl⟩⟩
 | .bool, _, z, ⟨i, h1, h2, h3, h4, h5⟩, hz => ⟨i, _, h1, h4, rfl, fun M w => by cases hz; exact ⟨rfl, rfl⟩⟩
 | .str, _, z, ⟨i, h1, h2, h3, h4, h5⟩, hz => ⟨i, _, h1, h4, rfl, fun M w => by cases hz; exact ⟨rfl, rfl⟩⟩
 | .slc _ _, _, z, ⟨i, _, h1, h2, h3, h4, h5, _⟩, hz => ⟨i, _, h1, h4, rfl, fun M w => by cases hz; exact ⟨rfl, none, 0, rfl, Nat.le_refl _, fun _ => rfl, .inl rfl⟩⟩
 | .osl _, _, z, ⟨i, _, h1, h2, h3, h4, h5, _⟩, hz => ⟨i, _, h1, h4, rfl, fun M w => by cases hz; exact ⟨none, 0, rfl, .inl ⟨rfl, rfl, rfl, rfl⟩⟩⟩
 | .ptr _ _, _, z, ⟨i, _, h1, h2, h3, h4, h5, _⟩, hz => ⟨i, _, h1, h4, rfl, fun M w => by cases hz; exact ⟨rfl, rfl⟩⟩
 | .optr _, _, _, _, hz => by cases hz
 | .st t, _, z, ⟨_, i, fs, zs, h1, h2, h3, h4, h5, h6, _⟩, hz => ⟨i, _, h1, h4, rfl, fun M w => zero_fld (τ := t) h6 hz M w⟩
 | .pr _ _, _, _, h, _ => h.elim
 | .nil, _, _, h, _ => h.elim
 | .blk, _, _, h, _ => h.elim
 | .mp _, _, z, ⟨i, _, _, h1, h2, h3, h4, h5, _⟩, hz => ⟨i, _, h1, h4, rfl, fun M w => by cases hz; exact ⟨rfl, rfl⟩⟩
 | .vm _ _, _, z, ⟨i, _, _, h1, h2, h3, h4, h5, _⟩, hz => ⟨i, _, h1, h4, rfl, fun M w => by cases hz; exact ⟨rfl, rfl⟩⟩
theorem zero_fld {P : Program} : ∀ {τ : Ty} {fs : List Field} {off : Nat} {zs : List Value} {z : τ.den}, FldF P τ fs off zs → zeroD τ = some z → ∀ (M : Md → Nat → Prop) (w : World), Rep M w τ zs z []
 | .pr a b, f :: r, off, zs, z, h, hz, M, w => by
    obtain ⟨h1, h2, h3, ⟨i, zv, q1, q2, q3⟩, h4⟩ := h
    simp only [zeroD] at hz
    split at hz
    ·rename_i x y hx hy
     cases hz
     obtain ⟨i', zv', r1, r2, _, r3⟩ := zero_rep (τ := a) h2 hx
     rw [q1] at r1
     obtain rfl := Option.some.inj r1
     rw [q2] at r2
     obtain rfl := Option.some.inj r2
     exact ⟨[], [], rfl, by rw [q3]; exact r3 M w, zero_fld (τ := b) h4 hy M w⟩
    ·cases hz
 | .nil, [], _, zs, z, h, hz, M, w => ⟨rfl, h⟩
 | .pr _ _, [], _, _, _, h, _, _, _ => h.elim
 | .nil, _ :: _, _, _, _, h, _, _, _ => h.elim
 | .int _, _, _, _, _, h, _, _, _ => by cases h
 | .bool, _, _, _, _, h, _, _, _ => by cases h
 | .str, _, _, _, _, h, _, _, _ => by cases h
 | .slc _ _, _, _, _, _, h, _, _, _ => by cases h
 | .osl _, _, _, _, _, h, _, _, _ => by cases h
 | .ptr _ _, _, _, _, _, h, _, _, _ => by cases h
 | .optr _, _, _, _, _, h, _, _, _ => by cases h
 | .st _, _, _, _, _, h, _, _, _ => by cases h
 | .blk, _, _, _, _, h, _, _, _ => by cases h
 | .mp _, _, _, _, _, h, _, _, _ => by cases h
 | .vm _ _, _, _, _, _, h, _, _, _ => by cases h
end
def sameLay : Ty → Ty → Bool
 | .int k, .int k' => if k = k' then true else false
 | .bool, .bool | .str, .str | .nil, .nil => true
 | .slc _ t, .slc _ u | .slc _ t, .osl u | .osl t, .slc _ u | .osl t, .osl u => sameLay t u
 | .ptr _ t, .ptr _ u | .ptr _ t, .optr u | .optr t, .ptr _ u | .optr t, .optr u => sameLay t u
 | .st t, .st u => sameLay t u
 | .mp t, .mp u | .mp t, .vm _ u | .vm _ t, .mp u | .vm _ t, .vm _ u => sameLay t u
 | .pr a b, .pr c d => sameLay a c && sameLay b d
 | _, _ => false
theorem sameLay.size : ∀ {τ υ : Ty}, sameLay τ υ = true → τ.size = υ.size := by
 intro τ
 induction τ with
 | st t ih => intro υ h; cases υ <;> simp only [sameLay] at h <;> first | (simp only [Ty.size]; exact ih h) | cases h
 | pr a b iha ihb =>
   intro υ h
   cases υ <;> simp only [sameLay] at h <;> try (cases h; done)
   simp only [Bool.and_eq_true] at h
   simp only [Ty.size]; rw [iha h.1, ihb h.2]
 | _ => intro υ h; cases υ <;> simp [sameLay] at h <;> simp [Ty.size]
mutual
theorem TyF.lay {P : Program} : ∀ {τ υ : Ty} {T : TypeId}, sameLay τ υ = true → TyF P τ T → TyF P υ T
 | .int k, υ, _, hs, h => by
    cases υ <;> simp [sameLay] at hs
    subst hs; exact h
 | .bool, υ, _, hs, h => by cases υ <;> simp [sameLay] at hs; exact h
 | .str, υ, _, hs, h => by cases υ <;> simp [sameLay] at hs; exact h
 | .slc _ t, υ, _, hs, h => by
    obtain ⟨i, E, h1, h2, h3, h4, h5, h6⟩ := h
    cases υ <;> simp only [sameLay] at hs <;> first | exact ⟨i, E, h1, h2, h3, h4, h5, TyF.lay hs h6⟩ | cases hs
 | .osl t, υ, _, hs, h => by
    obtain ⟨i, E, h1, h2, h3, h4, h5, h6⟩ := h
    cases υ <;> simp only [sameLay] at hs <;> first | exact ⟨i, E, h1, h2, h3, h4, h5, TyF.lay hs h6⟩ | cases hs
 | .ptr _ t, υ, _, hs, h => by
    obtain ⟨i, E, h1, h2, h3, h4, h5, h6⟩ := h
    cases υ <;> simp only [sameLay] at hs <;> first | exact ⟨i, E, h1, h2, h3, h4, h5, TyF.lay hs h6⟩ | cases hs
 | .optr t, υ, _, hs, h => by
    obtain ⟨i, E, h1, h2, h3, h4, h5, h6⟩ := h
    cases υ <;> simp only [sameLay] at hs <;> first | exact ⟨i, E, h1, h2, h3, h4, h5, TyF.lay hs h6⟩ | cases hs
 | .st t, υ, _, hs, h => by
    obtain ⟨h0, i, fs, zs, h1, h2, h3, h4, h5, h6, h7⟩ := h
    cases υ <;> simp only [sameLay] at hs <;> try (cases hs; done)
    have := sameLay.size hs
    exact ⟨by omega, i, fs, zs, h1, by omega, by omega, h4, h5, FldF.lay hs h6, by omega⟩
 | .pr _ _, _, _, _, h => h.elim
 | .nil, _, _, _, h => h.elim
 | .blk, _, _, _, h => h.elim
 | .mp t, υ, _, hs, h => by
    obtain ⟨i, K, E, h1, h2, h3, h4, h5, h6, h7⟩ := h
    cases υ <;> simp only [sameLay] at hs <;> first | exact ⟨i, K, E, h1, h2, h3, h4, h5, h6, TyF.lay hs h7⟩ | cases hs
 | .vm _ t, υ, _, hs, h => by
    obtain ⟨i, K, E, h1, h2, h3, h4, h5, h6, h7⟩ := h
    cases υ <;> simp only [sameLay] at hs <;> first | exact ⟨i, K, E, h1, h2, h3, h4, h5, h6, TyF.lay hs h7⟩ | cases hs
theorem FldF.lay {P : Program} : ∀ {τ υ : Ty} {fs : List Field} {off : Nat} {zs : List Value}, sameLay τ υ = true → FldF P τ fs off zs → FldF P υ fs off zs
 | .pr a b, υ, f :: r, off, zs, hs, h => by
    obtain ⟨h1, h2, h3, h4, h5⟩ := h
    cases υ <;> simp only [sameLay] at hs <;> try (cases hs; done)
    simp only [Bool.and_eq_true] at hs
    have := sameLay.size hs.1
    exact ⟨h1, TyF.lay hs.1 h2, by omega, by rw [← this]; exact h4, by rw [← this]; exact FldF.lay hs.2 h5⟩
 | .nil, υ, [], _, _, hs, h => by cases υ <;> simp [sameLay] at hs; exact h
 | .pr _ _, _, [], _, _, _, h => h.elim
 | .nil, _, _ :: _, _, _, _, h => h.elim
 | .int _, _, _, _, _, _, h => by cases h
 | .bool, _, _, _, _, _, h => by cases h
 | .str, _, _, _, _, _, h => by cases h
 | .slc _ _, _, _, _, _, _, h => by cases h
 | .osl _, _, _, _, _, _, h => by cases h
 | .ptr _ _, _, _, _, _, _, h => by cases h
 | .optr _, _, _, _, _, _, h => by cases h
 | .st _, _, _, _, _, _, h => by cases h
 | .blk, _, _, _, _, _, h => by cases h
 | .mp _, _, _, _, _, _, h => by cases h
end
structure Env where
 P : Program
 tt : List (TypeId × Ty)
 ok : ∀ T τ, lk tt T = some τ → TyF P τ T
 mix : P.follows .mixedOrders = true
end Go.Fw
end
section
namespace Go.Fw
def lim : Nat := 4294967296
def getI {α : Type} (xs : List α) (i : Int) : Option α := if 0 ≤ i then xs[i.toNat]? else none
theorem getI_some {α : Type} {xs : List α} {i : Int} {y : α} (h : getI xs i = some y) : i = (i.toNat : Int) ∧ i.toNat < xs.length ∧ xs[i.toNat]? = some y := by
 unfold getI at h
 split at h
 ·exact ⟨by omega, (List.getElem?_eq_some_iff.1 h).1, h⟩
 ·cases h
inductive Res where
 | tot (av : AV) (new : List (Nat × Tree))
 | part (α : Type) (φ : α → Prop) (f : α → AV × List (Nat × Tree))
 | bad
def Res.K (r : Res) (Q : AV → List (Nat × Tree) → Prop) : Prop :=
 match r with
 | .tot av new => Q av new
 | .part α φ f => ∃ y : α, φ y ∧ Q (f y).1 (f y).2
 | .bad => False
def Ty.pure : Ty → Bool
 | .osl _ | .optr _ | .blk | .mp _ => false
 | .st t => t.pure
 | .pr a b => a.pure && b.pure
 | _ => true
def tyAt : Ty → List Step → Option Ty
 | τ, [] => some τ
 | .osl t, .idx _ :: p => tyAt t p
 | .optr t, .deref :: p => tyAt t p
 | .mp t, .deref :: p => tyAt t p
 | .st t, .unst :: p => tyAt t p
 | .pr a _, .fst :: p => tyAt a p
 | .pr _ b, .snd :: p => tyAt b p
 | _, _ => none
def fldSteps : Ty → Nat → Option (List Step × Ty)
 | .pr a _, 0 => some ([.fst], a)
 | .pr _ b, n + 1 => match fldSteps b n with | some q => some (.snd :: q.1, q.2) | none => none
 | _, _ => none
def fldOff : Ty → Nat → Nat
 | .pr _ _, 0 => 0
 | .pr a b, n + 1 => a.size + fldOff b n
 | _, _ => 0
def fldV : (τ : Ty) → τ.den → Nat → Option Tree
 | .pr a _, x, 0 => some ⟨a, x.1⟩
 | .pr _ b, x, n + 1 => fldV b x.2 n
 | _, _, _ => none
theorem fldF_get {P : Program} : ∀ {τ : Ty} {fs : List Field} {off : Nat} {zs : List Value} {n : Nat} {s : List Step} {τf : Ty}, FldF P τ fs off zs → fldSteps τ n = some (s, τf) →
  ∃ f, fs[n]? = some f ∧ f.offset = off + fldOff τ n ∧ TyF P τf f.type
 | .pr a b, f :: r, off, zs, 0, s, τf, h, hn => by
    simp only [fldSteps, Option.some.injEq, Prod.mk.injEq] at hn
    obtain ⟨rfl, rfl⟩ := hn
    exact ⟨f, rfl, by rw [h.1]; rfl, h.2.1⟩
 | .pr a b, f :: r, off, zs, n + 1, s, τf, h, hn => by
    simp only [fldSteps] at hn
    split at hn
    ·rename_i q hq
     simp only [Option.some.injEq, Prod.mk.injEq] at hn
     obtain ⟨rfl, rfl⟩ := hn
     obtain ⟨f', h1, h2, h3⟩ := fldF_get (τ := b) h.2.2.2.2 (s := q.1) (τf := q.2) hq
     exact ⟨f', by simpa using h1, by rw [h2]; simp only [fldOff]; omega, h3⟩
    ·cases hn
 | .pr _ _, [], _, _, _, _, _, h, _ => h.elim
 | .int _, _, _, _, _, _, _, _, hn => by cases hn
 | .bool, _, _, _, _, _, _, _, hn => by cases hn
 | .str, _, _, _, _, _, _, _, hn => by cases hn
 | .slc _ _, _, _, _, _, _, _, _, hn => by cases hn
 | .osl _, _, _, _, _, _, _, _, hn => by cases hn
 | .ptr _ _, _, _, _, _, _, _, _, hn => by cases hn
 | .optr _, _, _, _, _, _, _, _, hn => by cases hn
 | .st _, _, _, _, _, _, _, _, hn => by cases hn
 | .nil, _, _, _, _, _, _, _, hn => by cases hn
 | .blk, _, _, _, _, _, _, _, hn => by cases hn
theorem fldV_steps : ∀ {τ : Ty} {x : τ.den} {n : Nat} {t : Tree}, fldV τ x n = some t → ∃ s, fldSteps τ n = some (s, t.1)
 | .pr a b, x, 0, t, h => by simp only [fldV, Option.some.injEq] at h; subst h; exact ⟨_, rfl⟩
 | .pr a b, x, n + 1, t, h => by
    obtain ⟨s, hs⟩ := fldV_steps (τ := b) h
    exact ⟨.snd :: s, by simp [fldSteps, hs]⟩
 | .int _, _, _, _, h => by cases h
 | .bool, _, _, _, h => by cases h
 | .str, _, _, _, h => by cases h
 | .slc _ _, _, _, _, h => by cases h
 | .osl _, _, _, _, h => by cases h
 | .ptr _ _, _, _, _, h => by cases h
 | .optr _, _, _, _, h => by cases h
 | .st _, _, _, _, h => by cases h
 | .nil, _, _, _, h => by cases h
 | .blk, _, _, _, h => by cases h
theorem fldSteps_le : ∀ {τ : Ty} {n : Nat} {s : List Step} {tf : Ty}, fldSteps τ n = some (s, tf) → fldOff τ n + tf.size ≤ τ.size
 | .pr a b, 0, s, tf, h => by
    simp only [fldSteps, Option.some.injEq, Prod.mk.injEq] at h
    obtain ⟨_, rfl⟩ := h
    simp [fldOff, Ty.size]
 | .pr a b, n + 1, s, tf, h => by
    simp only [fldSteps] at h
    split at h
    ·rename_i q hq
     simp only [Option.some.injEq, Prod.mk.injEq] at h
     obtain ⟨_, rfl⟩ := h
     have := fldSteps_le (τ := b) (s := q.1) (tf := q.2) hq
     simp only [fldOff, Ty.size]; omega
    ·cases h
 | .int _, _, _, _, h => by cases h
 | .bool, _, _, _, h => by cases h
 | .str, _, _, _, h => by cases h
 | .slc _ _, _, _, _, h => by cases h
 | .osl _, _, _, _, h => by cases h
 | .ptr _ _, _, _, _, h => by cases h
 | .optr _, _, _, _, h => by cases h
 | .st _, _, _, _, h => by cases h
 | .nil, _, _, _, h => by cases h
 | .blk, _, _, _, h => by cases h
theorem fldV_rep {M : Md → Nat → Prop} {w : World} : ∀ {τ : Ty} {x : τ.den} {n : Nat} {t : Tree} {cs : List Value}, Rep M w τ cs x [] → fldV τ x n = some t →
  Rep M w t.1 ((cs.drop (fldOff τ n)).take t.1.size) t.2 [] ∧ fldOff τ n + t.1.size ≤ τ.size
 | .pr a b, x, 0, t, cs, hr, h => by
    simp only [fldV, Option.some.injEq] at h; subst h
    obtain ⟨f1, f2, hf, h1, h2⟩ := hr
    obtain ⟨rfl, rfl⟩ : f1 = [] ∧ f2 = [] := by simpa [eq_comm] using hf
    exact ⟨by simpa [fldOff] using h1, by simp [fldOff, Ty.size]⟩
 | .pr a b, x, n + 1, t, cs, hr, h => by
    obtain ⟨f1, f2, hf, h1, h2⟩ := hr
    obtain ⟨rfl, rfl⟩ : f1 = [] ∧ f2 = [] := by simpa [eq_comm] using hf
    obtain ⟨h3, h4⟩ := fldV_rep (τ := b) h2 h
    refine ⟨?_, by simp only [fldOff, Ty.size]; omega⟩
    simp only [fldOff]
    rwa [List.drop_drop] at h3
 | .int _, _, _, _, _, _, h => by cases h
 | .bool, _, _, _, _, _, h => by cases h
 | .str, _, _, _, _, _, h => by cases h
 | .slc _ _, _, _, _, _, _, h => by cases h
 | .osl _, _, _, _, _, _, h => by cases h
 | .ptr _ _, _, _, _, _, _, h => by cases h
 | .optr _, _, _, _, _, _, h => by cases h
 | .st _, _, _, _, _, _, h => by cases h
 | .nil, _, _, _, _, _, h => by cases h
 | .blk, _, _, _, _, _, h => by cases h
theorem Nav.nil_iff {w : World} {τ τ' : Ty} {l l' : Loc} {cs cs' : List Value} : Nav w τ l cs [] τ' l' cs' ↔ τ = τ' ∧ l = l' ∧ cs = cs' := by cases τ <;> exact Iff.rfl
theorem Nav.append {w : World} : ∀ {p q : List Step} {τ τ1 τ2 : Ty} {l l1 l2 : Loc} {cs c1 c2 : List Value}, Nav w τ l cs p τ1 l1 c1 → Nav w τ1 l1 c1 q τ2 l2 c2 → Nav w τ l cs (p ++ q) τ2 l2 c2
 | [], q, τ, _, _, _, _, _, _, _, _, h, h' => by
     obtain ⟨rfl, rfl, rfl⟩ := Nav.nil_iff.1 h
     exact h'
 | s :: p, q, τ, _, _, _, _, _, _, _, _, h, h' => by
     cases τ <;> cases s <;> simp only [Nav] at h
     case osl.idx t i =>
      obtain ⟨b, o, len, cap, ds, h1, h2, h3, h4, h5⟩ := h
      exact ⟨b, o, len, cap, ds, h1, h2, h3, h4, h5.append h'⟩
     case optr.deref t =>
      obtain ⟨b, o, ds, h1, h2, h3, h4⟩ := h
      exact ⟨b, o, ds, h1, h2, h3, h4.append h'⟩
     case st.unst t => exact Nav.append (p := p) (τ := t) h h'
     case pr.fst t1 t2 => exact Nav.append (p := p) (τ := t1) h h'
     case pr.snd t1 t2 => exact Nav.append (p := p) (τ := t2) h h'
theorem Nav.here {w : World} {τ : Ty} {l : Loc} {cs : List Value} : Nav w τ l cs [] τ l cs := by cases τ <;> exact ⟨rfl, rfl, rfl⟩
theorem Nav.ty {w : World} : ∀ {p : List Step} {τ τ' : Ty} {l l' : Loc} {cs cs' : List Value}, Nav w τ l cs p τ' l' cs' → tyAt τ p = some τ'
 | [], τ, _, _, _, _, _, h => by
     obtain ⟨rfl, _⟩ := Nav.nil_iff.1 h
     cases τ <;> rfl
 | s :: p, τ, _, _, _, _, _, h => by
     cases τ <;> cases s <;> simp only [Nav] at h
     case osl.idx t i => obtain ⟨b, o, len, cap, ds, h1, h2, h3, h4, h5⟩ := h; exact h5.ty
     case optr.deref t => obtain ⟨b, o, ds, h1, h2, h3, h4⟩ := h; exact h4.ty
     case st.unst t => exact Nav.ty (p := p) (τ := t) h
     case pr.fst t1 t2 => exact Nav.ty (p := p) (τ := t1) h
     case pr.snd t1 t2 => exact Nav.ty (p := p) (τ := t2) h
theorem Nav.at {w : World} : ∀ {p : List Step} {τ τ' : Ty} {l l' : Loc} {cs cs' : List Value}, Nav w τ l cs p τ' l' cs' → cs.length = τ.size → (∀ b o, l = some (b, o) → At w b o cs) →
  cs'.length = τ'.size ∧ ∀ b o, l' = some (b, o) → At w b o cs'
 | [], τ, _, _, _, _, _, h, hl, ha => by
     obtain ⟨rfl, rfl, rfl⟩ := Nav.nil_iff.1 h
     exact ⟨hl, ha⟩
 | s :: p, τ, _, l, _, cs, _, h, hl, ha => by
     cases τ <;> cases s <;> simp only [Nav] at h
     case osl.idx t i =>
      obtain ⟨b, o, len, cap, ds, h1, h2, h3, h4, h5⟩ := h
      exact h5.at h3 (fun b' o' e => by simp only [Option.some.injEq, Prod.mk.injEq] at e; obtain ⟨rfl, rfl⟩ := e; exact h4)
     case optr.deref t =>
      obtain ⟨b, o, ds, h1, h2, h3, h4⟩ := h
      exact h4.at h2 (fun b' o' e => by simp only [Option.some.injEq, Prod.mk.injEq] at e; obtain ⟨rfl, rfl⟩ := e; exact h3)
     case st.unst t => exact Nav.at (τ := t) h hl ha
     case pr.fst a b =>
      exact Nav.at (τ := a) h (by simp only [Ty.size] at hl; simp; omega) (fun b o e => (ha b o e).take)
     case pr.snd a b =>
      refine Nav.at (τ := b) h (by simp only [Ty.size] at hl; simp; omega) (fun b' o e => ?_)
      cases l with
      | none => simp at e
      | some q =>
        simp only [Option.map_some, Option.some.injEq, Prod.mk.injEq] at e
        obtain ⟨rfl, rfl⟩ := e
        exact (ha _ _ rfl).drop
theorem Nav.fld {w : World} : ∀ {τ : Ty} {n : Nat} {s : List Step} {τf : Ty} {l : Loc} {cs : List Value}, fldSteps τ n = some (s, τf) →
  Nav w τ l cs s τf (l.map fun q => (q.1, q.2 + fldOff τ n)) ((cs.drop (fldOff τ n)).take τf.size)
 | .pr a b, 0, s, τf, l, cs, h => by
    simp only [fldSteps, Option.some.injEq, Prod.mk.injEq] at h
    obtain ⟨rfl, rfl⟩ := h
    have : (l.map fun q => (q.1, q.2 + fldOff (.pr a b) 0)) = l := by cases l <;> simp [fldOff]
    rw [this]
    simp only [Nav, fldOff, List.drop_zero]
    first | exact Nav.here | exact ⟨rfl, rfl, rfl⟩ | trivial | simp
 | .pr a b, n + 1, s, τf, l, cs, h => by
    simp only [fldSteps] at h
    split at h
    ·rename_i q hq
     simp only [Option.some.injEq, Prod.mk.injEq] at h
     obtain ⟨rfl, rfl⟩ := h
     have := Nav.fld (w := w) (τ := b) (s := q.1) (τf := q.2) (l := l.map fun q => (q.1, q.2 + a.size)) (cs := cs.drop a.size) hq
     simp only [Nav, fldOff]
     rw [List.drop_drop] at this
     cases l with
     | none => exact this
     | some q0 => simp only [Option.map_some, Nat.add_assoc] at this ⊢; exact this
    ·cases h
 | .int _, _, _, _, _, _, hn => by cases hn
 | .bool, _, _, _, _, _, hn => by cases hn
 | .str, _, _, _, _, _, hn => by cases hn
 | .slc _ _, _, _, _, _, _, hn => by cases hn
 | .osl _, _, _, _, _, _, hn => by cases hn
 | .ptr _ _, _, _, _, _, _, hn => by cases hn
 | .optr _, _, _, _, _, _, hn => by cases hn
 | .st _, _, _, _, _, _, hn => by cases hn
 | .nil, _, _, _, _, _, hn => by cases hn
 | .blk, _, _, _, _, _, hn => by cases hn
theorem GetP.uniq : ∀ {p : List Step} {τ : Ty} {x : τ.den} {τ' : Ty} {y y' : τ'.den}, GetP τ x p τ' y → GetP τ x p τ' y' → y = y'
 | [], τ, _, _, _, _, h, h' => by
     obtain ⟨rfl, h⟩ := GetP.nil_iff.1 h
     obtain ⟨_, h'⟩ := GetP.nil_iff.1 h'
     exact h.symm.trans h'
 | s :: p, τ, _, _, _, _, h, h' => by
     cases τ <;> cases s <;> simp only [GetP] at h h'
     case osl.idx =>
      obtain ⟨e, he, h⟩ := h
      obtain ⟨e', he', h'⟩ := h'
      rw [he] at he'
      obtain rfl := Option.some.inj he'
      exact h.uniq h'
     case optr.deref => exact GetP.uniq (p := p) h h'
     case st.unst => exact GetP.uniq (p := p) h h'
     case pr.fst => exact GetP.uniq (p := p) h h'
     case pr.snd => exact GetP.uniq (p := p) h h'
def Yields (E : Env) (C : Ctx) (st : St) (a : Act) (w : World) (I : Nat → Prop) (rt : Nat → List Value) (fp : Nat → List Nat) (o : Oper) (Q : AV → List (Nat × Tree) → Prop) : Prop :=
 ∃ v w' I' rtn fpn av new, (execOp a.eval o).run E.P w = .ok (.value v) w' ∧ Grew w w' ∧ (∀ b, I b → I' b) ∧ (∀ b, I' b → I b ∨ (w.heap.size ≤ b ∧ b < w'.heap.size)) ∧
   NewOk C st w w' I' new rtn fpn ∧ AVok (md I' C.B) w' (new ++ st.h) (mixv new rtn rt) (mixv new fpn fp) av v ∧ Q av new
section
variable {E : Env} {C : Ctx} {st : St} {a : Act} {w : World} {I : Nat → Prop} {rt : Nat → List Value} {fp : Nat → List Nat} {o : Oper} {Q : AV → List (Nat × Tree) → Prop}
theorem Yields.pure {v : Value} {av : AV} (hr : (execOp a.eval o).run E.P w = .ok (.value v) w) (hv : AVok (md I C.B) w st.h rt fp av v) (hq : Q av []) : Yields E C st a w I rt fp o Q :=
 ⟨v, w, I, rt, fp, av, [], hr, .refl w, fun _ h => h, fun _ h => .inl h, .nil, hv, hq⟩
theorem Yields.wp (hR : RelAt C st a.tmps w I rt fp) (h : Yields E C st a w I rt fp o Q) {next : Act → World → Prop} {X : Exit → Act → World → Prop} {d : Nat} (hd : o.dst = some d) (hdn : C.ok d)
  (hn : ∀ av new a' w', Q av new → a'.defers = a.defers → Rel C ⟨(d, av) :: st.g, new ++ st.h⟩ a'.tmps w' → next a' w') : o.wp E.P a w next X := by
 obtain ⟨v, w', I', rtn, fpn, av, new, h1, h2, h3, h4, h5, h6, h7⟩ := h
 unfold Oper.wp
 rw [h1]
 show next (a.put o.dst v) w'
 rw [hd]
 exact hn av new _ _ h7 rfl ⟨I', _, _, (hR.ext h2 h3 h4 h5).put hdn h6⟩
def binI (op : BinOp) (k : IntKind) (x : Int) (k' : IntKind) (y : Int) : Res :=
 let z (p : Prop) (r : Int) : Res := if k = k' then .part Int (fun z => p ∧ r = z) (fun z => (.val (.int k) z, [])) else .bad
 let b (r : Bool) : Res := if k = k' then .tot (.val .bool r) [] else .bad
 match op with
 | .add => z True (k.wrap (x + y))
 | .sub => z True (k.wrap (x - y))
 | .mul => z True (k.wrap (x * y))
 | .quo => z (y ≠ 0) (k.wrap (x.tdiv y))
 | .rem => z (y ≠ 0) (x.tmod y)
 | .and => z True (k.wrap (BitVec.ofInt k.bits x &&& BitVec.ofInt k.bits y).toNat)
 | .or => z True (k.wrap (BitVec.ofInt k.bits x ||| BitVec.ofInt k.bits y).toNat)
 | .xor => z True (k.wrap (BitVec.ofInt k.bits x ^^^ BitVec.ofInt k.bits y).toNat)
 | .andNot => z True (k.wrap (BitVec.ofInt k.bits x &&& ~~~BitVec.ofInt k.bits y).toNat)
 | .shl => .part Int (fun z => 0 ≤ y ∧ k.wrap (x * 2 ^ min y.toNat k.bits) = z) (fun z => (.val (.int k) z, []))
 | .shr => .part Int (fun z => 0 ≤ y ∧ x.fdiv (2 ^ min y.toNat k.bits) = z) (fun z => (.val (.int k) z, []))
 | .eql => b (x == y)
 | .neq => b (x != y)
 | .lss => b (decide (x < y))
 | .leq => b (decide (x ≤ y))
 | .gtr => b (decide (x > y))
 | .geq => b (decide (x ≥ y))
def binF (op : BinOp) (x y : AV) : Res :=
 match x, y with
 | .val (.int k) x, .val (.int k') y => binI op k x k' y
 | .val .bool x, .val .bool y => match op with
   | .eql => .tot (.val .bool (x == y)) []
   | .neq => .tot (.val .bool (!(x == y))) []
   | _ => .bad
 | _, _ => .bad
theorem binI_sound {op : BinOp} {t u : TypeId} {x y : Operand} {k k' : IntKind} {m n : Int} (ho : o.op = .binOp op t x y u) (hx : a.eval x = .int k m) (hy : a.eval y = .int k' n) (h : (binI op k m k' n).K Q) :
  Yields E C st a w I rt fp o Q := by
 have hg : ∀ w, (eqGuard op t x y (.int k m) (.int k' n)).run E.P w = .ok () w := fun w => by
  unfold eqGuard
  cases op <;> simp
 have shl : op = .shl → Yields E C st a w I rt fp o Q := by
  rintro rfl
  simp only [binI] at h
  obtain ⟨z, ⟨h0, rfl⟩, h⟩ := h
  exact .pure (v := .int k _) (by simp [execOp, ho, hx, hy, hg, binOp, Op.shift, show ¬ n < 0 by omega]) (.int k _) h
 have shr : op = .shr → Yields E C st a w I rt fp o Q := by
  rintro rfl
  simp only [binI] at h
  obtain ⟨z, ⟨h0, rfl⟩, h⟩ := h
  exact .pure (v := .int k _) (by simp [execOp, ho, hx, hy, hg, binOp, Op.shift, show ¬ n < 0 by omega]) (.int k _) h
 by_cases hk : k = k'
 case neg =>
  cases op <;> simp only [binI, hk, if_false] at h
  case shl => exact shl rfl
  case shr => exact shr rfl
  all_goals exact h.elim
 subst hk
 cases op <;> simp only [binI, if_true] at h
 case shl => exact shl rfl
 case shr => exact shr rfl
 case quo | rem =>
  obtain ⟨z, ⟨h0, rfl⟩, h⟩ := h
  exact .pure (v := .int k _) (by simp [execOp, ho, hx, hy, hg, binOp, Op.intDiv, h0]) (.int k _) h
 case add | sub | mul =>
  obtain ⟨z, ⟨_, rfl⟩, h⟩ := h
  exact .pure (v := .int k _) (by simp [execOp, ho, hx, hy, hg, binOp, Op.intArith]) (.int k _) h
 case and | or | xor | andNot =>
  obtain ⟨z, ⟨_, rfl⟩, h⟩ := h
  exact .pure (v := .int k _) (by simp only [execOp, ho, hx, hy, Sem.run_bind, hg, binOp, Op.intBits]; simp) (.int k _) h
 all_goals exact .pure (v := .bool _) (by simp [execOp, ho, hx, hy, hg, binOp, Op.intCmp]) (.bool _) h
theorem run_equalIn_bool {P : Program} (w : World) (d : Nat) {t : TypeId} (p q : Bool) (h : P.underlying t = some .bool) : (Op.equalIn (d + 1) t (.bool p) (.bool q)).run P w = .ok (p == q) w := by
 simp [Op.equalIn, run_underlying h]
theorem run_eql_bool {P : Program} (w : World) {t : TypeId} (p q : Bool) (h : P.underlying t = some .bool) : (binOp .eql t (.bool p) (.bool q)).run P w = .ok (.bool (p == q)) w := by
 simp only [binOp]
 simp [Op.equal, Op.maxDepth, run_equalIn_bool w 9999 p q h]
theorem run_neq_bool {P : Program} (w : World) {t : TypeId} (p q : Bool) (h : P.underlying t = some .bool) : (binOp .neq t (.bool p) (.bool q)).run P w = .ok (.bool (!(p == q))) w := by
 simp only [binOp]
 simp [Op.equal, Op.maxDepth, run_equalIn_bool w 9999 p q h]
theorem binF_sound (hR : RelAt C st a.tmps w I rt fp) {op : BinOp} {t u : TypeId} {x y : Operand} (ho : o.op = .binOp op t x y u)  (hb : ∀ p q : Bool, (op = .eql ∨ op = .neq) → (opA st.g x = .val .bool p ∧ opA st.g y = .val .bool q) → E.P.underlying t = some .bool)
  (h : (binF op (opA st.g x) (opA st.g y)).K Q) : Yields E C st a w I rt fp o Q := by
 have hx := hR.opA x
 have hy := hR.opA y
 unfold binF at h
 split at h
 ·rename_i k m k' n ex ey
  rw [ex] at hx; rw [ey] at hy
  obtain ⟨v, hv⟩ : ∃ v, v = a.eval x := ⟨_, rfl⟩
  obtain ⟨u', hu⟩ : ∃ v, v = a.eval y := ⟨_, rfl⟩
  rw [← hv] at hx; rw [← hu] at hy
  cases hx with | val r1 => cases hy with | val r2 =>
  obtain ⟨_, rfl⟩ := r1
  obtain ⟨_, rfl⟩ := r2
  exact binI_sound ho hv.symm hu.symm h
 ·rename_i p q ex ey
  have hu := hb p q
  have hxy : opA st.g x = .val .bool p ∧ opA st.g y = .val .bool q := ⟨ex, ey⟩
  rw [ex] at hx; rw [ey] at hy
  obtain ⟨v, hv⟩ : ∃ v, v = a.eval x := ⟨_, rfl⟩
  obtain ⟨u', hu'⟩ : ∃ v, v = a.eval y := ⟨_, rfl⟩
  rw [← hv] at hx; rw [← hu'] at hy
  cases hx with | val r1 => cases hy with | val r2 =>
  obtain ⟨_, rfl⟩ := r1
  obtain ⟨_, rfl⟩ := r2
  have hv' : a.eval x = .bool p := hv.symm
  have hu2 : a.eval y = .bool q := hu'.symm
  have hg : ∀ w, (eqGuard op t x y (.bool p) (.bool q)).run E.P w = .ok () w := fun w => by
   unfold eqGuard
   cases op <;> simp
  split at h
  ·have := hu (.inl rfl) hxy
   exact .pure (v := .bool _) (by simp only [execOp, ho, hv', hu2, Sem.run_bind, hg, Result.andThen_ok, run_eql_bool _ _ _ this]; rfl) (.bool _) h
  ·have := hu (.inr rfl) hxy
   exact .pure (v := .bool _) (by simp only [execOp, ho, hv', hu2, Sem.run_bind, hg, Result.andThen_ok, run_neq_bool _ _ _ this]; rfl) (.bool _) h
  ·exact h.elim
 ·exact h.elim
end
end Go.Fw
end
section
namespace Go.Fw
section
variable {E : Env} {C : Ctx} {st : St} {a : Act} {w : World} {I : Nat → Prop} {rt : Nat → List Value} {fp : Nat → List Nat} {o : Oper} {Q : AV → List (Nat × Tree) → Prop}
theorem RelAt.notM {tm : Array Value} (hR : RelAt C st tm w I rt fp) {id : Nat} {t : Tree} (ht : lk st.h id = some t) : ∀ b ∈ fp id, ∀ m, ¬ md I C.B m b := fun b hb m hm => by
 have := (hR.tree id t ht).2.2 b hb
 rcases md_or hm with h | h
 ·exact this.1 h
 ·exact this.2.1 h
theorem RelAt.getP {tm : Array Value} (hR : RelAt C st tm w I rt fp) {id : Nat} {t : Tree} (ht : lk st.h id = some t) {p : List Step} {τ : Ty} {y : τ.den} (hg : GetP t.1 t.2 p τ y) {τ' : Ty} {loc : Loc} {cs : List Value}
  (hn : Nav w t.1 none (rt id) p τ' loc cs) : ∃ _e : τ' = τ, ∃ f, Rep (md I C.B) w τ cs y f ∧ LocOk w loc cs τ.size ∧ ∀ b ∈ f, b ∈ fp id := by
 obtain ⟨hr, hnd, _⟩ := hR.tree id t ht
 obtain ⟨loc', cs', f, rest, g1, g2, g3, g4, _⟩ := focus p (loc := none) hr (fun _ _ h => by cases h) hnd (fun _ _ h => by cases h) (hR.notM ht) hg
 obtain ⟨rfl, rfl, rfl⟩ := hn.det g1
 exact ⟨rfl, f, g2, g3, fun b hb => g4.mem_iff.2 (by simp [hb])⟩
theorem RelAt.rootLen {tm : Array Value} (hR : RelAt C st tm w I rt fp) {id : Nat} {t : Tree} (ht : lk st.h id = some t) {p : List Step} {τ' : Ty} {loc : Loc} {cs : List Value}
  (hn : Nav w t.1 none (rt id) p τ' loc cs) : cs.length = τ'.size ∧ ∀ b o, loc = some (b, o) → At w b o cs := hn.at (hR.tree id t ht).1.len (fun _ _ h => by cases h)
theorem navOptr {M : Md → Nat → Prop} : ∀ {p : List Step} {τ : Ty} {l : Loc} {cs : List Value} {x : τ.den} {f : List Nat} {t : Ty} {l' : Loc} {cs' : List Value}, Rep M w τ cs x f → Nav w τ l cs p (.optr t) l' cs' →
  ∃ b o ds, cs' = [.pointer (some ⟨b, o, none⟩)] ∧ ds.length = t.size ∧ At w b o ds
 | [], τ, _, _, _, _, _, _, _, hr, hn => by
     obtain ⟨rfl, rfl, rfl⟩ := Nav.nil_iff.1 hn
     obtain ⟨b, o, f, ds, h1, _, h3, h4, _⟩ := hr
     exact ⟨b, o, ds, h1, h3, h4⟩
 | s :: p, τ, _, cs, x, f, _, _, _, hr, hn => by
     cases τ <;> cases s <;> simp only [Nav] at hn
     case osl.idx t i =>
      obtain ⟨b, o, len, cap, ds, rfl, h2, h3, h4, h5⟩ := hn
      obtain ⟨ad, cap', e, hr⟩ := hr
      simp only [List.cons.injEq, Value.slice.injEq, and_true] at e
      obtain ⟨rfl, rfl, rfl⟩ := e
      rcases hr with ⟨h0, _⟩ | ⟨b', o', fps, h0, _, q1, q2, q3, q4⟩
      ·cases h0
      cases h0
      obtain ⟨ds', d1, d2, d3⟩ := q4 i x[i] (fps[i]'(by omega)) (by simp) (by simp)
      obtain rfl := h4.eq d2 (by omega)
      exact navOptr (p := p) d3 h5
     case optr.deref t =>
      obtain ⟨b, o, ds, rfl, h3, h4, h5⟩ := hn
      obtain ⟨b', o', f, ds', e, _, h3', h4', _, h6⟩ := hr
      simp only [List.cons.injEq, Value.pointer.injEq, Option.some.injEq, Addr.mk.injEq, and_true] at e
      obtain ⟨rfl, rfl⟩ := e
      obtain rfl := h4.eq h4' (by omega)
      exact navOptr (p := p) h6 h5
     case st.unst t => exact navOptr (p := p) (τ := t) hr hn
     case pr.fst t1 t2 => obtain ⟨f1, f2, _, h1, _⟩ := hr; exact navOptr (p := p) (τ := t1) h1 hn
     case pr.snd t1 t2 => obtain ⟨f1, f2, _, _, h2⟩ := hr; exact navOptr (p := p) (τ := t2) h2 hn
def isSlcT (tt : List (TypeId × Ty)) (T : TypeId) : Option Ty := match lk tt T with | some (.slc _ t) => some t | _ => none
def isStT (tt : List (TypeId × Ty)) (T : TypeId) : Option Ty := match lk tt T with | some (.st t) => some t | _ => none
theorem isSlcT.ok {T : TypeId} {t : Ty} (h : isSlcT E.tt T = some t) : ∃ i S, E.P.info? T = some i ∧ E.P.underlying T = some (.slice S) ∧ TyF E.P t S := by
 unfold isSlcT at h
 split at h
 ·rename_i m u hl
  cases h
  obtain ⟨i, S, h1, _, _, _, h5, h6⟩ := E.ok T _ hl
  exact ⟨i, S, h1, h5, h6⟩
 ·cases h
theorem isStT.ok {T : TypeId} {t : Ty} (h : isStT E.tt T = some t) : ∃ fs zs, E.P.underlying T = some (.struct fs) ∧ FldF E.P t fs.toList 0 zs := by
 unfold isStT at h
 split at h
 ·rename_i u hl
  cases h
  obtain ⟨_, i, fs, zs, h1, _, _, _, h5, h6, _⟩ := E.ok T _ hl
  exact ⟨fs, zs.toList, h5, h6⟩
 ·cases h
def lenF (tt : List (TypeId × Ty)) (h : List (Nat × Tree)) (T : TypeId) (x : AV) : Res :=
 match isSlcT tt T with
 | none => .bad
 | some _ => match x with
   | .val (.slc _ _) xs => .tot (.val (.int .i64) (xs.length : Int)) []
   | .cv (.slice none 0 0) => .tot (.val (.int .i64) (0 : Int)) []
   | .ref id p => match lk h id with
     | some ⟨τ, x⟩ => match tyAt τ p with
       | some (.osl t) => .part (List t.den) (fun xs => GetP τ x p (.osl t) xs) (fun xs => (.val (.int .i64) (xs.length : Int), []))
       | _ => .bad
     | none => .bad
   | .view _ _ lo hi => .tot (.val (.int .i64) ((hi - lo : Nat) : Int)) []
   | .app id p τ ys _ => match lk h id with
     | some ⟨τ0, x⟩ => .part (List τ.den) (fun xs => GetP τ0 x p (.osl τ) xs) (fun xs => (.val (.int .i64) ((xs.length + ys.length : Nat) : Int), []))
     | none => .bad
   | _ => .bad
theorem len_run {T : TypeId} {t : Ty} (hT : isSlcT E.tt T = some t) {x : Operand} (ho : o.op = .call { callee := .builtin .len, args := #[x], argTypes := #[T] }) {ad : Option Addr} {n c : Nat} (hx : a.eval x = .slice ad n c) :
  (execOp a.eval o).run E.P w = .ok (.value (.int .i64 n)) w := by
 obtain ⟨i, S, _, h5, _⟩ := isSlcT.ok hT
 simp [execOp, ho, resolve, invoke, builtin, hx, Builtin.len_, run_underlying h5, goInt]
theorem lenF_sound (hR : RelAt C st a.tmps w I rt fp) {T : TypeId} {x : Operand} (ho : o.op = .call { callee := .builtin .len, args := #[x], argTypes := #[T] }) (h : (lenF E.tt st.h T (opA st.g x)).K Q) :
  Yields E C st a w I rt fp o Q := by
 have hx := hR.opA x
 unfold lenF at h
 split at h
 ·exact h.elim
 rename_i t hT
 generalize hv : a.eval x = v at hx
 split at h
 ·rename_i m u xs ex
  rw [ex] at hx
  cases hx with | val r =>
  obtain ⟨_, ad, cap, rfl, _⟩ := r
  exact .pure (len_run hT ho hv) (.int _ _) h
 ·rename_i ex
  rw [ex] at hx
  cases hx
  exact .pure (len_run hT ho hv) (.int _ _) h
 ·rename_i id p ex
  rw [ex] at hx
  split at h
  ·rename_i τ y ht
   split at h
   ·rename_i u hty
    obtain ⟨xs, hg, h⟩ := h
    cases hx with | ref ht' hn =>
    rw [ht] at ht'; cases ht'
    obtain ⟨rfl, f, hr, _⟩ := hR.getP ht hg hn
    obtain ⟨ad, cap, rfl, _⟩ := hr
    exact .pure (len_run hT ho hv) (.int _ _) h
   ·exact h.elim
  ·exact h.elim
 ·rename_i id p lo hi ex
  rw [ex] at hx
  cases hx with
  | viewE => exact .pure (len_run hT ho hv) (.int _ _) h
  | view ht' hn => exact .pure (len_run hT ho hv) (.int _ _) h
 ·rename_i id p τ ys own ex
  rw [ex] at hx
  split at h
  ·rename_i τ0 y ht
   obtain ⟨xs, hg, h⟩ := h
   cases hx with | app ht' hnb hn hg' h1 hf1 h2 =>
   rw [ht] at ht'; cases ht'
   obtain ⟨ad, cap, e, _⟩ := h2
   simp only [List.cons.injEq, and_true] at e
   have hq := GetP.uniq hg hg'
   subst hq
   rw [e] at hv
   have := len_run (w := w) hT ho hv
   rw [List.length_append] at this
   exact .pure this (.int _ _) h
  ·exact h.elim
 ·exact h.elim
theorem Nav.idx1 {t : Ty} {l : Loc} {b o len cap k : Nat} {ds : List Value} (h1 : k < len) (h2 : ds.length = t.size) (h3 : At w b (o + k * t.size) ds) :
  Nav w (.osl t) l [.slice (some ⟨b, o, none⟩) len cap] [.idx k] t (some (b, o + k * t.size)) ds := ⟨b, o, len, cap, ds, rfl, h1, h2, h3, Nav.here⟩
theorem Nav.deref1 {t : Ty} {l : Loc} {b o : Nat} {ds : List Value} (h2 : ds.length = t.size) (h3 : At w b o ds) :
  Nav w (.optr t) l [.pointer (some ⟨b, o, none⟩)] [.deref] t (some (b, o)) ds := ⟨b, o, ds, rfl, h2, h3, Nav.here⟩
def idxF (tt : List (TypeId × Ty)) (h : List (Nat × Tree)) (T : TypeId) (x i : AV) : Res :=
 match isSlcT tt T with
 | none => .bad
 | some u => match i with
   | .val (.int _) i => match x with
     | .val (.slc m t) xs => bif sameLay u t then .part t.den (fun y => getI xs i = some y) (fun y => (.val (.ptr m t) (some y), [])) else .bad
     | .ref id p => match lk h id with
       | some ⟨τ, x⟩ => match tyAt τ p with
         | some (.osl t) => bif sameLay u t then .part (List t.den × Nat) (fun q => GetP τ x p (.osl t) q.1 ∧ i = (q.2 : Int) ∧ q.2 < q.1.length) (fun q => (.addr id (p ++ [.idx q.2]), [])) else .bad
         | _ => .bad
       | none => .bad
     | .view id p lo hi => match lk h id with
       | some ⟨τ, x⟩ => match tyAt τ p with
         | some (.osl t) => bif sameLay u t then .part (List t.den × Nat) (fun q => GetP τ x p (.osl t) q.1 ∧ i = (q.2 : Int) ∧ q.2 < hi - lo) (fun q => (.addr id (p ++ [.idx (lo + q.2)]), [])) else .bad
         | _ => .bad
       | none => .bad
     | _ => .bad
   | _ => .bad
theorem idx_run {T : TypeId} {u t : Ty} (hT : isSlcT E.tt T = some u) (hl : sameLay u t = true) {x i : Operand} (ho : o.op = .indexAddr T x i) {b off len cap k : Nat} {ik : IntKind} (hx : a.eval x = .slice (some ⟨b, off, none⟩) len cap)
  (hi : a.eval i = .int ik k) (hk : k < len) : (execOp a.eval o).run E.P w = .ok (.value (.pointer (some ⟨b, off + k * t.size, none⟩))) w := by
 obtain ⟨j, S, _, h5, h6⟩ := isSlcT.ok hT
 have hs := (h6.lay hl).sizeOf w
 have : (0 : Int) ≤ (k : Int) ∧ (k : Int) < (len : Int) := ⟨by omega, by omega⟩
 simp [execOp, ho, hx, hi, Instr.indexAt, asIntOf, run_underlying h5, this, hs, Addr.add_lit]
 intro h0; omega
theorem idxF_sound (hR : RelAt C st a.tmps w I rt fp) {T : TypeId} {x i : Operand} (ho : o.op = .indexAddr T x i) (h : (idxF E.tt st.h T (opA st.g x) (opA st.g i)).K Q) :
  Yields E C st a w I rt fp o Q := by
 have hx := hR.opA x
 have hi := hR.opA i
 unfold idxF at h
 split at h
 ·exact h.elim
 rename_i u hT
 generalize hv : a.eval x = v at hx
 generalize hvi : a.eval i = vi at hi
 split at h
 case h_2 => exact h.elim
 rename_i ik n ei
 rw [ei] at hi
 cases hi with | val r =>
 obtain ⟨_, rfl⟩ := r
 split at h
 ·rename_i m t xs ex
  cases hl : sameLay u t with
  | false => rw [hl] at h; exact h.elim
  | true =>
    rw [hl] at h
    obtain ⟨y, hy, h⟩ := h
    rw [ex] at hx
    cases hx with | val r =>
    obtain ⟨_, ad, cap, rfl, q1, q2, q3⟩ := r
    obtain ⟨e1, e2, e3⟩ := getI_some hy
    rcases q3 with rfl | ⟨b, off, rfl, hM, q4⟩
    ·simp at e2
    obtain ⟨ds, d1, d2, d3⟩ := q4 _ _ e3
    have hvi' : a.eval i = .int ik (n.toNat : Nat) := by rw [hvi]; show Value.int ik n = _; rw [← e1]
    exact .pure (idx_run hT hl ho hv hvi' e2) (.val (τ := .ptr m t) (x := some y) (cs := [.pointer (some ⟨b, off + n.toNat * t.size, none⟩)]) ⟨rfl, b, _, ds, rfl, hM, d1, d2, d3⟩) h
 ·rename_i id p ex
  split at h
  case h_2 => exact h.elim
  rename_i τ y ht
  split at h
  case h_2 => exact h.elim
  rename_i t hty
  cases hl : sameLay u t with
  | false => rw [hl] at h; exact h.elim
  | true =>
    rw [hl] at h
    obtain ⟨⟨xs, k⟩, ⟨hg, rfl, hk⟩, h⟩ := h
    simp only at hg hk h
    rw [ex] at hx
    cases hx with | ref ht' hn =>
    rw [ht] at ht'; cases ht'
    obtain ⟨rfl, f, hr, _⟩ := hR.getP ht hg hn
    obtain ⟨ad, cap, rfl, hr⟩ := hr
    rcases hr with ⟨_, rfl, _⟩ | ⟨b, off, fps, rfl, _, q1, q2, q3, q4⟩
    ·simp at hk
    obtain ⟨ds, d1, d2, d3⟩ := q4 k xs[k] (fps[k]'(by omega)) (by simp) (by simp)
    exact .pure (idx_run hT hl ho hv hvi hk) (.addr ht (hn.append (Nav.idx1 hk d1 d2))) h
 ·rename_i id p lo hi' ex
  split at h
  case h_2 => exact h.elim
  rename_i τ y ht
  split at h
  case h_2 => exact h.elim
  rename_i t hty
  cases hl : sameLay u t with
  | false => rw [hl] at h; exact h.elim
  | true =>
    rw [hl] at h
    obtain ⟨⟨xs, k⟩, ⟨hg, rfl, hk⟩, h⟩ := h
    simp only at hg hk h
    rw [ex] at hx
    cases hx with | viewE => (exact absurd hk (by omega)) | view ht' hn l1 l2 l3 =>
    rename_i b off len cap
    rw [ht] at ht'; cases ht'
    obtain ⟨e, f, hr, _⟩ := hR.getP ht hg hn
    cases e
    obtain ⟨ad, cap', hh, hr⟩ := hr
    simp only [List.cons.injEq, Value.slice.injEq, and_true] at hh
    obtain ⟨rfl, rfl, rfl⟩ := hh
    rcases hr with ⟨h0, _⟩ | ⟨b', off', fps, h0, _, q1, q2, q3, q4⟩
    ·cases h0
    cases h0
    have hlk : lo + k < xs.length := by omega
    obtain ⟨ds, d1, d2, d3⟩ := q4 (lo + k) xs[lo + k] (fps[lo + k]'(by omega)) (by simp) (by simp)
    have := idx_run (w := w) hT hl ho hv hvi hk
    rw [if_neg (by omega), show off + lo * t.size + k * t.size = off + (lo + k) * t.size by rw [Nat.add_mul]; omega] at this
    exact .pure this (.addr ht (hn.append (Nav.idx1 hlk d1 d2))) h
 ·exact h.elim
theorem Rep.pure {M : Md → Nat → Prop} {w : World} : ∀ {τ : Ty} {cs : List Value} {x : τ.den} {f : List Nat}, τ.pure = true → Rep M w τ cs x f → f = []
 | .int _, _, _, _, _, h => h.1
 | .bool, _, _, _, _, h => h.1
 | .str, _, _, _, _, h => h.1
 | .slc _ _, _, _, _, _, h => h.1
 | .ptr _ _, _, _, _, _, h => h.1
 | .nil, _, _, _, _, h => h.1
 | .st t, _, _, _, hp, h => Rep.pure (τ := t) hp h
 | .pr a b, _, _, _, hp, h => by
    simp only [Ty.pure, Bool.and_eq_true] at hp
    obtain ⟨f1, f2, rfl, h1, h2⟩ := h
    rw [Rep.pure (τ := a) hp.1 h1, Rep.pure (τ := b) hp.2 h2]; rfl
 | .osl _, _, _, _, hp, _ => by cases hp
 | .optr _, _, _, _, hp, _ => by cases hp
 | .vm _ _, _, x, _, _, h => by
    cases x with
    | none => exact h.1
    | some q => obtain ⟨b, es, L, _, h2, _⟩ := h; exact h2
 | .blk, _, _, _, hp, _ => by cases hp
def readF (τ : Ty) (x : τ.den) (id : Nat) (p : List Step) (t : Ty) : Res :=
 bif t.pure then .part t.den (fun y => GetP τ x p t y) (fun y => (.val t y, [])) else .tot (.ref id p) []
def loadF (tt : List (TypeId × Ty)) (h : List (Nat × Tree)) (T : TypeId) (x : AV) : Res :=
 match lk tt T with
 | none => .bad
 | some u => match x with
   | .val (.ptr _ t) (some y) => bif sameLay u t then .tot (.val t y) [] else .bad
   | .addr id p => match lk h id with
     | some ⟨τ, x⟩ => match tyAt τ p with
       | some t => bif sameLay u t then readF τ x id p t else .bad
       | none => .bad
     | none => .bad
   | .ref id p => match lk h id with
     | some ⟨τ, x⟩ => match tyAt τ p with
       | some (.optr t) => bif sameLay u t then readF τ x id (p ++ [.deref]) t else .bad
       | _ => .bad
     | none => .bad
   | _ => .bad
theorem load_run {T : TypeId} {u t : Ty} (hT : lk E.tt T = some u) (hl : sameLay u t = true) {x : Operand} (ho : o.op = .load T x) {b off : Nat} {cs : List Value} (hx : a.eval x = .pointer (some ⟨b, off, none⟩)) (ha : At w b off cs) (hc : cs.length = t.size) :
  (execOp a.eval o).run E.P w = .ok (.value (regV t cs)) w := by
 have := run_loadVar ((E.ok T u hT).lay hl) ha hc
 simp [execOp, ho, hx, Instr.loadAt, Instr.sureAddr, this]
theorem readF_sound (hR : RelAt C st a.tmps w I rt fp) {id : Nat} {τ : Ty} {x : τ.den} (ht : lk st.h id = some ⟨τ, x⟩) {p : List Step} {t : Ty} {loc : Loc} {cs : List Value} (hn : Nav w τ none (rt id) p t loc cs)
  (hr : (execOp a.eval o).run E.P w = .ok (.value (regV t cs)) w) (h : (readF τ x id p t).K Q) : Yields E C st a w I rt fp o Q := by
 unfold readF at h
 cases hp : t.pure with
 | true =>
   rw [hp] at h
   obtain ⟨y, hg, h⟩ := h
   obtain ⟨_, f, hrep, _⟩ := hR.getP ht hg hn
   have := hrep.pure hp
   subst this
   exact .pure hr (.val hrep) h
 | false =>
   rw [hp] at h
   exact .pure hr (.ref ht hn) h
theorem loadF_sound (hR : RelAt C st a.tmps w I rt fp) {T : TypeId} {x : Operand} (ho : o.op = .load T x) (h : (loadF E.tt st.h T (opA st.g x)).K Q) : Yields E C st a w I rt fp o Q := by
 have hx := hR.opA x
 unfold loadF at h
 split at h
 ·exact h.elim
 rename_i u hT
 generalize hv : a.eval x = v at hx
 split at h
 ·rename_i m t y ex
  cases hl : sameLay u t with
  | false => rw [hl] at h; exact h.elim
  | true =>
    rw [hl] at h
    rw [ex] at hx
    cases hx with | val r =>
    obtain ⟨_, b, off, ds, rfl, q1, q2, q3, q4⟩ := r
    exact .pure (load_run hT hl ho hv q3 q2) (.val q4) h
 ·rename_i id p ex
  split at h
  case h_2 => exact h.elim
  rename_i τ y ht
  split at h
  case h_2 => exact h.elim
  rename_i t hty
  cases hl : sameLay u t with
  | false => rw [hl] at h; exact h.elim
  | true =>
    rw [hl] at h
    rw [ex] at hx
    cases hx with | addr ht' hn =>
    rw [ht] at ht'; cases ht'
    have := hn.ty
    rw [hty] at this; cases this
    obtain ⟨q1, q2⟩ := hR.rootLen ht hn
    exact readF_sound hR ht hn (load_run hT hl ho hv (q2 _ _ rfl) q1) h
 ·rename_i id p ex
  split at h
  case h_2 => exact h.elim
  rename_i τ y ht
  split at h
  case h_2 => exact h.elim
  rename_i t hty
  cases hl : sameLay u t with
  | false => rw [hl] at h; exact h.elim
  | true =>
    rw [hl] at h
    rw [ex] at hx
    cases hx with | ref ht' hn =>
    rename_i τ' loc cs
    rw [ht] at ht'; cases ht'
    have := hn.ty
    rw [hty] at this; cases this
    obtain ⟨b, off, ds, rfl, d1, d2⟩ := navOptr (hR.tree id _ ht).1 hn
    exact readF_sound hR ht (hn.append (Nav.deref1 d1 d2)) (load_run hT hl ho hv d2 d1) h
 ·exact h.elim
def fldAF (tt : List (TypeId × Ty)) (h : List (Nat × Tree)) (T : TypeId) (x : AV) (n : Nat) : Res :=
 match isStT tt T with
 | none => .bad
 | some u => match x with
   | .val (.ptr m (.st t)) (some y) => bif sameLay u t then match fldV t y n with
      | some ⟨tf, yf⟩ => .tot (.val (.ptr m tf) (some yf)) []
      | none => .bad
     else .bad
   | .ref id p => match lk h id with
     | some ⟨τ, _⟩ => match tyAt τ p with
       | some (.optr (.st t)) => bif sameLay u t then match fldSteps t n with
          | some (s, _) => .tot (.addr id (p ++ (.deref :: .unst :: s))) []
          | none => .bad
         else .bad
       | _ => .bad
     | none => .bad
   | .addr id p => match lk h id with
     | some ⟨τ, _⟩ => match tyAt τ p with
       | some (.st t) => bif sameLay u t then match fldSteps t n with
          | some (s, _) => .tot (.addr id (p ++ (.unst :: s))) []
          | none => .bad
         else .bad
       | _ => .bad
     | none => .bad
   | _ => .bad
theorem fldA_run {T : TypeId} {u t : Ty} (hT : isStT E.tt T = some u) (hl : sameLay u t = true) {n : Nat} {s : List Step} {tf : Ty} (hs : fldSteps t n = some (s, tf)) {x : Operand} (ho : o.op = .fieldAddr T x n) {b off : Nat}
  (hx : a.eval x = .pointer (some ⟨b, off, none⟩)) : (execOp a.eval o).run E.P w = .ok (.value (.pointer (some ⟨b, off + fldOff t n, none⟩))) w := by
 obtain ⟨fs, zs, h5, h6⟩ := isStT.ok hT
 obtain ⟨f, hf, ho', hf2⟩ := fldF_get (FldF.lay hl h6) hs
 have hz : tf.size ≠ 0 := by have := hf2.pos; omega
 have hf' : fs[n]? = some f := by simpa using hf
 simp [execOp, ho, hx, Instr.fieldAt, run_underlying h5, hf', Instr.sureAddr, fieldPlace, hf2.sizeOf, hz, Addr.add_lit, ho']
theorem fldAF_sound (hR : RelAt C st a.tmps w I rt fp) {T : TypeId} {x : Operand} {n : Nat} (ho : o.op = .fieldAddr T x n) (h : (fldAF E.tt st.h T (opA st.g x) n).K Q) : Yields E C st a w I rt fp o Q := by
 have hx := hR.opA x
 unfold fldAF at h
 split at h
 ·exact h.elim
 rename_i u hT
 generalize hv : a.eval x = v at hx
 split at h
 ·rename_i m t y ex
  cases hl : sameLay u t with
  | false => rw [hl] at h; exact h.elim
  | true =>
    rw [hl] at h
    simp only [cond_true] at h
    split at h
    case h_2 => exact h.elim
    rename_i tf yf hf
    rw [ex] at hx
    cases hx with | val r =>
    obtain ⟨_, b, off, ds, rfl, q1, q2, q3, q4⟩ := r
    obtain ⟨s, hs⟩ := fldV_steps hf
    obtain ⟨r1, r2⟩ := fldV_rep (τ := t) q4 hf
    have l1 := q4.len
    simp only [Ty.size] at l1 r1 r2
    exact .pure (fldA_run hT hl hs ho hv) (.val (τ := .ptr m tf) (x := some yf) (cs := [.pointer (some ⟨b, off + fldOff t n, none⟩)]) ⟨rfl, b, _, _, rfl, q1, by simp; omega, q3.drop.take, r1⟩) h
 ·rename_i id p ex
  split at h
  case h_2 => exact h.elim
  rename_i τ y ht
  split at h
  case h_2 => exact h.elim
  rename_i t hty
  cases hl : sameLay u t with
  | false => rw [hl] at h; exact h.elim
  | true =>
    rw [hl] at h
    simp only [cond_true] at h
    split at h
    case h_2 => exact h.elim
    rename_i s tf hs
    rw [ex] at hx
    cases hx with | ref ht' hn =>
    rw [ht] at ht'; cases ht'
    have := hn.ty
    rw [hty] at this; cases this
    obtain ⟨b, off, ds, rfl, d1, d2⟩ := navOptr (hR.tree id _ ht).1 hn
    rename_i loc
    have q : Nav w (.optr (.st t)) loc [.pointer (some ⟨b, off, none⟩)] (.deref :: .unst :: s) tf (some (b, off + fldOff t n)) ((ds.drop (fldOff t n)).take tf.size) := ⟨b, off, ds, rfl, d1, d2, Nav.fld (l := some (b, off)) hs⟩
    exact .pure (fldA_run hT hl hs ho hv) (.addr ht (hn.append q)) h
 ·rename_i id p ex
  split at h
  case h_2 => exact h.elim
  rename_i τ y ht
  split at h
  case h_2 => exact h.elim
  rename_i t hty
  cases hl : sameLay u t with
  | false => rw [hl] at h; exact h.elim
  | true =>
    rw [hl] at h
    simp only [cond_true] at h
    split at h
    case h_2 => exact h.elim
    rename_i s tf hs
    rw [ex] at hx
    cases hx with | addr ht' hn =>
    rw [ht] at ht'; cases ht'
    have := hn.ty
    rw [hty] at this; cases this
    rename_i b off cs
    have q : Nav w (.st t) (some (b, off)) cs (.unst :: s) tf (some (b, off + fldOff t n)) ((cs.drop (fldOff t n)).take tf.size) := Nav.fld (l := some (b, off)) hs
    exact .pure (fldA_run hT hl hs ho hv) (.addr ht (hn.append q)) h
 ·exact h.elim
def fldF (tt : List (TypeId × Ty)) (h : List (Nat × Tree)) (T : TypeId) (x : AV) (n : Nat) : Res :=
 match isStT tt T with
 | none => .bad
 | some u => match x with
   | .val (.st t) y => bif sameLay u t then match fldV t y n with
      | some ⟨tf, yf⟩ => .tot (.val tf yf) []
      | none => .bad
     else .bad
   | .ref id p => match lk h id with
     | some ⟨τ, x⟩ => match tyAt τ p with
       | some (.st t) => bif sameLay u t then match fldSteps t n with
          | some (s, tf) => readF τ x id (p ++ (.unst :: s)) tf
          | none => .bad
         else .bad
       | _ => .bad
     | none => .bad
   | _ => .bad
theorem fld_run {T : TypeId} {u t : Ty} (hT : isStT E.tt T = some u) (hl : sameLay u t = true) {n : Nat} {s : List Step} {tf : Ty} (hs : fldSteps t n = some (s, tf)) {x : Operand} (ho : o.op = .field T x n) {cs : List Value}
  (hx : a.eval x = regV (.st t) cs) (hc : fldOff t n + tf.size ≤ cs.length) : (execOp a.eval o).run E.P w = .ok (.value (regV tf ((cs.drop (fldOff t n)).take tf.size))) w := by
 obtain ⟨fs, zs, h5, h6⟩ := isStT.ok hT
 obtain ⟨f, hf, ho', hf2⟩ := fldF_get (FldF.lay hl h6) hs
 have hz := hf2.pos
 have hf' : fs[n]? = some f := by simpa using hf
 simp only [Nat.zero_add] at ho'
 have hx' : a.eval x = .agg cs.toArray := hx
 have key : (part f.type cs.toArray f.offset).run E.P w = .ok (regV tf ((cs.drop (fldOff t n)).take tf.size)) w := by
  simp only [part, Sem.run_bind, hf2.isAgg, Result.andThen_ok, ho']
  cases hq : isSt tf with
  | true =>
    rw [regV_of_st hq]
    simp only [if_true, Sem.run_bind, hf2.sizeOf, Result.andThen_ok, Sem.run_pure]
    congr 2
    apply Array.ext'
    rw [Array.toList_extract, List.extract_eq_take_drop, Nat.add_sub_cancel_left]
  | false =>
    have h1 := one_of_not_st hf2 hq
    rw [regV_of_not_st hq, h1]
    have hlt : fldOff t n < cs.length := by omega
    have : (cs.drop (fldOff t n)).take 1 = [cs[fldOff t n]] := by
     rw [List.drop_eq_getElem_cons hlt]; rfl
    rw [this]
    simp [hlt]
 simp [execOp, ho, hx', Instr.field, run_underlying h5, hf', asAgg, key]
theorem fldF_sound (hR : RelAt C st a.tmps w I rt fp) {T : TypeId} {x : Operand} {n : Nat} (ho : o.op = .field T x n) (h : (fldF E.tt st.h T (opA st.g x) n).K Q) : Yields E C st a w I rt fp o Q := by
 have hx := hR.opA x
 unfold fldF at h
 split at h
 ·exact h.elim
 rename_i u hT
 generalize hv : a.eval x = v at hx
 split at h
 ·rename_i t y ex
  cases hl : sameLay u t with
  | false => rw [hl] at h; exact h.elim
  | true =>
    rw [hl] at h
    simp only [cond_true] at h
    split at h
    case h_2 => exact h.elim
    rename_i tf yf hf
    rw [ex] at hx
    cases hx with | val r =>
    obtain ⟨s, hs⟩ := fldV_steps hf
    obtain ⟨r1, r2⟩ := fldV_rep (τ := t) r hf
    have l1 := r.len
    simp only [Ty.size] at l1
    exact .pure (fld_run hT hl hs ho hv (by simp only at *; omega)) (.val r1) h
 ·rename_i id p ex
  split at h
  case h_2 => exact h.elim
  rename_i τ y ht
  split at h
  case h_2 => exact h.elim
  rename_i t hty
  cases hl : sameLay u t with
  | false => rw [hl] at h; exact h.elim
  | true =>
    rw [hl] at h
    simp only [cond_true] at h
    split at h
    case h_2 => exact h.elim
    rename_i s tf hs
    rw [ex] at hx
    cases hx with | ref ht' hn =>
    rename_i τ' loc cs
    rw [ht] at ht'; cases ht'
    have := hn.ty
    rw [hty] at this; cases this
    obtain ⟨q1, q2⟩ := hR.rootLen ht hn
    have q : Nav w (.st t) loc cs (.unst :: s) tf (loc.map fun q => (q.1, q.2 + fldOff t n)) ((cs.drop (fldOff t n)).take tf.size) := Nav.fld hs
    exact readF_sound hR ht (hn.append q) (fld_run hT hl hs ho hv (by rw [q1]; exact fldSteps_le hs)) h
 ·exact h.elim
def nilF (h : List (Nat × Tree)) (x : AV) : Res :=
 match x with
 | .val (.ptr m t) x => .part t.den (fun y => x = some y) (fun y => (.val (.ptr m t) (some y), []))
 | .ref id p => match lk h id with
   | some ⟨τ, _⟩ => match tyAt τ p with
     | some (.optr _) => .tot (.ref id p) []
     | _ => .bad
   | none => .bad
 | .addr id p => .tot (.addr id p) []
 | .clo f l => .tot (.clo f l) []
 | _ => .bad
theorem nilF_sound (hR : RelAt C st a.tmps w I rt fp) {x : Operand} (ho : o.op = .nilCheck x) (h : (nilF st.h (opA st.g x)).K Q) : Yields E C st a w I rt fp o Q := by
 have hx := hR.opA x
 unfold nilF at h
 generalize hv : a.eval x = v at hx
 split at h
 ·rename_i m t y ex
  obtain ⟨y, rfl, h⟩ := h
  rw [ex] at hx
  cases hx with | val r =>
  obtain ⟨_, b, off, ds, rfl, q1, q2, q3, q4⟩ := r
  exact .pure (v := .pointer (some ⟨b, off, none⟩)) (by simp [execOp, ho, hv, regV]) (.val (τ := .ptr m t) (x := some y) (cs := [.pointer (some ⟨b, off, none⟩)]) ⟨rfl, b, off, ds, rfl, q1, q2, q3, q4⟩) h
 ·rename_i id p ex
  split at h
  case h_2 => exact h.elim
  rename_i τ y ht
  split at h
  case h_2 => exact h.elim
  rename_i t hty
  rw [ex] at hx
  cases hx with | ref ht' hn =>
  rw [ht] at ht'; cases ht'
  have := hn.ty
  rw [hty] at this; cases this
  obtain ⟨b, off, ds, rfl, d1, d2⟩ := navOptr (hR.tree id _ ht).1 hn
  exact .pure (v := .pointer (some ⟨b, off, none⟩)) (by simp [execOp, ho, hv, regV]) (.ref (τ' := .optr t) ht hn) h
 ·rename_i id p ex
  rw [ex] at hx
  cases hx with | addr ht hn =>
  exact .pure (by simp [execOp, ho, hv]) (.addr ht hn) h
 ·rename_i f l ex
  rw [ex] at hx
  cases hx with | clo hl hh =>
  exact .pure (by simp [execOp, ho, hv]) (.clo hl hh) h
 ·exact h.elim
def bndP (x : Option AV) (d k : Nat) : Prop :=
 match x with
 | none => k = d
 | some (.val (.int _) i) => i = (k : Int)
 | some _ => False
def slcF (tt : List (TypeId × Ty)) (h : List (Nat × Tree)) (T : TypeId) (x : AV) (lo hi : Option AV) : Res :=
 match isSlcT tt T with
 | none => .bad
 | some u => match x with
   | .val (.slc m t) xs => bif sameLay u t then
      .part (Nat × Nat) (fun q => bndP lo 0 q.1 ∧ bndP hi xs.length q.2 ∧ q.1 ≤ q.2 ∧ q.2 ≤ xs.length) (fun q => (.val (.slc m t) ((xs.take q.2).drop q.1), [])) else .bad
   | .ref id p => match lk h id with
     | some ⟨τ, x⟩ => match tyAt τ p with
       | some (.osl t) => bif sameLay u t then
          .part (List t.den × Nat × Nat) (fun q => GetP τ x p (.osl t) q.1 ∧ bndP lo 0 q.2.1 ∧ bndP hi q.1.length q.2.2 ∧ q.2.1 ≤ q.2.2 ∧ q.2.2 ≤ q.1.length) (fun q => (.view id p q.2.1 q.2.2, [])) else .bad
       | _ => .bad
     | none => .bad
   | _ => .bad
def bndV (a : Act) (x : Option Operand) (d k : Nat) : Prop :=
 match x with
 | none => k = d
 | some y => ∃ q, a.eval y = .int q k
theorem slc_run {T : TypeId} {u t : Ty} (hT : isSlcT E.tt T = some u) (hl : sameLay u t = true) {x : Operand} {lo hi : Option Operand} (ho : o.op = .slice T x lo hi none) {ad : Option Addr} {len cap l h : Nat} (hx : a.eval x = .slice ad len cap)
  (hlo : bndV a lo 0 l) (hhi : bndV a hi len h) (h1 : l ≤ h) (h2 : h ≤ cap) :
  (execOp a.eval o).run E.P w = .ok (.value (.slice (if cap = l then ad else ad.map (·.add (l * t.size))) (h - l) (cap - l))) w := by
 obtain ⟨j, S, _, h5, h6⟩ := isSlcT.ok hT
 have hs := (h6.lay hl).sizeOf w
 have e1 : (0 : Int) ≤ (h : Int) ∧ (h : Int) ≤ (cap : Int) := ⟨by omega, by omega⟩
 have e2 : (0 : Int) ≤ (l : Int) ∧ (l : Int) ≤ (h : Int) := ⟨by omega, by omega⟩
 have e3 : (Instr.sliceBounds true len cap (lo.map a.eval) (hi.map a.eval) none).run E.P w = .ok (l, h, cap) w := by
  cases lo with
  | none =>
    obtain rfl : l = 0 := hlo
    cases hi with
    | none => obtain rfl : h = len := hhi; simp [Instr.sliceBounds]
    | some y => obtain ⟨k, hk⟩ := hhi; simp [Instr.sliceBounds, Instr.sliceBound, hk, asIntOf, e1]; intro h0; omega
  | some z =>
    obtain ⟨k', hk'⟩ := hlo
    cases hi with
    | none => obtain rfl : h = len := hhi; simp [Instr.sliceBounds, Instr.sliceBound, hk', asIntOf, e2]; intro h0; omega
    | some y =>
      obtain ⟨k, hk⟩ := hhi
      have n1 : ¬ cap < h := by omega
      have n2 : ¬ h < l := by omega
      simp [Instr.sliceBounds, Instr.sliceBound, hk, hk', asIntOf, h1, h2]
 simp [execOp, ho, hx, Instr.sliceAt, Instr.slice, run_underlying h5, e3, hs]
theorem bnd_eval (hR : RelAt C st a.tmps w I rt fp) {x : Option Operand} {d k : Nat} (h : bndP (x.map (opA st.g)) d k) : bndV a x d k := by
 cases x with
 | none => exact h
 | some y =>
   have := hR.opA y
   simp only [Option.map_some, bndP] at h
   split at h
   ·rename_i e; cases e
   ·rename_i q i e
    simp only [Option.some.injEq] at e
    rw [e] at this
    subst h
    generalize hv : a.eval y = v at this
    cases this with | val r => obtain ⟨_, rfl⟩ := r; exact ⟨q, hv⟩
   ·exact h.elim
theorem slcF_sound (hR : RelAt C st a.tmps w I rt fp) {T : TypeId} {x : Operand} {lo hi : Option Operand} (ho : o.op = .slice T x lo hi none) (h : (slcF E.tt st.h T (opA st.g x) (lo.map (opA st.g)) (hi.map (opA st.g))).K Q) :
  Yields E C st a w I rt fp o Q := by
 have hx := hR.opA x
 unfold slcF at h
 split at h
 ·exact h.elim
 rename_i u hT
 generalize hv : a.eval x = v at hx
 split at h
 ·rename_i m t xs ex
  cases hl : sameLay u t with
  | false => rw [hl] at h; exact h.elim
  | true =>
    rw [hl] at h
    obtain ⟨⟨l, k⟩, ⟨b1, b2, b3, b4⟩, h⟩ := h
    simp only at b1 b2 b3 b4 h
    rw [ex] at hx
    cases hx with | val r =>
    obtain ⟨_, ad, cap, rfl, q1, q2, q3⟩ := r
    have hrun := slc_run (w := w) hT hl ho hv (bnd_eval hR b1) (bnd_eval hR b2) b3 (by omega)
    have hlen : ((xs.take k).drop l).length = k - l := by simp; omega
    refine .pure hrun (.val (τ := .slc m t) (x := (xs.take k).drop l) (cs := [_]) ⟨rfl, _, cap - l, by rw [hlen], by omega, ?_, ?_⟩) h
    ·intro h0
     by_cases hc : cap = l
     ·omega
     ·rw [if_neg hc] at h0
      cases ad with
      | none => have := q2 rfl; omega
      | some _ => cases h0
    ·by_cases hkl : k = l
     ·left; apply List.eq_nil_of_length_eq_zero; omega
     ·right
      rcases q3 with rfl | ⟨b, off, rfl, hM, q4⟩
      ·simp at b4; omega
      ·refine ⟨b, off + l * t.size, by rw [if_neg (by omega)]; simp [Addr.add_lit], hM, fun i y hi => ?_⟩
       have hi' : xs[l + i]? = some y := by
        rw [List.getElem?_drop, List.getElem?_take] at hi
        split at hi
        ·exact hi
        ·cases hi
       obtain ⟨ds, d1, d2, d3⟩ := q4 _ _ hi'
       refine ⟨ds, d1, ?_, d3⟩
       rwa [show off + l * t.size + i * t.size = off + (l + i) * t.size by rw [Nat.add_mul]; omega]
 ·rename_i id p ex
  split at h
  case h_2 => exact h.elim
  rename_i τ y ht
  split at h
  case h_2 => exact h.elim
  rename_i t hty
  cases hl : sameLay u t with
  | false => rw [hl] at h; exact h.elim
  | true =>
    rw [hl] at h
    obtain ⟨⟨xs, l, k⟩, ⟨hg, b1, b2, b3, b4⟩, h⟩ := h
    simp only at hg b1 b2 b3 b4 h
    rw [ex] at hx
    cases hx with | ref ht' hn =>
    rw [ht] at ht'; cases ht'
    obtain ⟨rfl, f, hr, _⟩ := hR.getP ht hg hn
    obtain ⟨ad, cap, rfl, hr⟩ := hr
    rcases hr with ⟨rfl, rfl, rfl, _⟩ | ⟨b, off, fps, rfl, _, q1, q2, q3, q4⟩
    ·have hk0 : k = 0 := by simpa using b4
     subst hk0
     have hl0 : l = 0 := by omega
     subst hl0
     exact .pure (slc_run (w := w) hT hl ho hv (bnd_eval hR b1) (bnd_eval hR b2) (Nat.le_refl _) (Nat.le_refl _)) (.viewE id p) h
    have hrun := slc_run (w := w) hT hl ho hv (bnd_eval hR b1) (bnd_eval hR b2) b3 (by omega)
    have : (if cap = l then some (⟨b, off, none⟩ : Addr) else (some (⟨b, off, none⟩ : Addr)).map (·.add (l * t.size))) = some ⟨b, if cap = l then off else off + l * t.size, none⟩ := by
     split <;> simp [Addr.add_lit]
    rw [this] at hrun
    exact .pure hrun (.view ht hn b3 b4 q2) h
 ·exact h.elim
end
end Go.Fw
end
section
namespace Go.Fw
def cvC : (τ : Ty) → List Value → Option τ.den
 | .int k, cs => match cs with
   | [.int k' n] => if k = k' then some n else none
   | _ => none
 | .bool, cs => match cs with
   | [.bool b] => some b
   | _ => none
 | .str, cs => match cs with
   | [.string s] => some s
   | _ => none
 | .slc _ _, cs => match cs with
   | [.slice none 0 0] => some []
   | _ => none
 | .osl _, cs => match cs with
   | [.slice none 0 0] => some []
   | _ => none
 | .ptr _ _, cs => match cs with
   | [.pointer none] => some none
   | _ => none
 | .st t, cs => cvC t cs
 | .pr a b, cs => match cvC a (cs.take a.size), cvC b (cs.drop a.size) with
   | some x, some y => some (x, y)
   | _, _ => none
 | .nil, cs => match cs with
   | [] => some ()
   | _ => none
 | .optr _, _ => none
 | .blk, _ => none
 | .mp _, _ => none
 | .vm _ _, _ => none
theorem cvC_rep {M : Md → Nat → Prop} {w : World} : ∀ {τ : Ty} {cs : List Value} {x : τ.den}, cvC τ cs = some x → Rep M w τ cs x []
 | .int k, cs, x, h => by
    simp only [cvC] at h
    split at h
    ·split at h
     ·rename_i hk; cases h; subst hk; exact ⟨rfl, rfl⟩
     ·cases h
    ·cases h
 | .bool, cs, x, h => by
    simp only [cvC] at h
    split at h <;> cases h
    exact ⟨rfl, rfl⟩
 | .str, cs, x, h => by
    simp only [cvC] at h
    split at h <;> cases h
    exact ⟨rfl, rfl⟩
 | .slc _ _, cs, x, h => by
    simp only [cvC] at h
    split at h <;> cases h
    exact ⟨rfl, none, 0, rfl, Nat.le_refl _, fun _ => rfl, .inl rfl⟩
 | .osl _, cs, x, h => by
    simp only [cvC] at h
    split at h <;> cases h
    exact ⟨none, 0, rfl, .inl ⟨rfl, rfl, rfl, rfl⟩⟩
 | .ptr _ _, cs, x, h => by
    simp only [cvC] at h
    split at h <;> cases h
    exact ⟨rfl, rfl⟩
 | .st t, cs, x, h => cvC_rep (τ := t) (by simp only [cvC] at h; exact h)
 | .pr a b, cs, x, h => by
    simp only [cvC] at h
    split at h
    ·rename_i x y hx hy
     cases h
     exact ⟨[], [], rfl, cvC_rep (τ := a) hx, cvC_rep (τ := b) hy⟩
    ·cases h
 | .nil, cs, x, h => by
    simp only [cvC] at h
    split at h <;> cases h
    exact ⟨rfl, rfl⟩
 | .optr _, cs, x, h => by simp only [cvC] at h; cases h
 | .blk, cs, x, h => by simp only [cvC] at h; cases h
 | .mp _, cs, x, h => by simp only [cvC] at h; cases h
 | .vm _ _, cs, x, h => by simp only [cvC] at h; cases h
theorem foldl_set (off : Nat) : ∀ (l : List Value) (k : Nat) (cs : Array Value),
  let r := (l.zipIdx k).foldl (fun cs (q : Value × Nat) => cs.setIfInBounds (off + q.2) q.1) cs
  r.size = cs.size ∧ (∀ j, j < off + k ∨ off + k + l.length ≤ j → r[j]? = cs[j]?) ∧ (off + k + l.length ≤ cs.size → ∀ j v, l[j]? = some v → r[off + k + j]? = some v)
 | [], k, cs => ⟨rfl, fun _ _ => rfl, fun _ j v h => by simp at h⟩
 | x :: l, k, cs => by
     obtain ⟨h1, h2, h3⟩ := foldl_set off l (k + 1) (cs.setIfInBounds (off + k) x)
     simp only [List.zipIdx_cons, List.foldl_cons]
     refine ⟨by rw [h1]; simp, fun j hj => ?_, fun hs j v hv => ?_⟩
     ·simp only [List.length_cons] at hj
      rw [h2 j (by omega), Array.getElem?_setIfInBounds_ne (by omega)]
     ·simp only [List.length_cons] at hs
      cases j with
      | zero =>
        simp only [List.getElem?_cons_zero, Option.some.injEq] at hv
        subst hv
        rw [Nat.add_zero, h2 _ (by omega)]
        have : off + k < cs.size := by omega
        simp [this]
      | succ j =>
        simp only [List.getElem?_cons_succ] at hv
        have := h3 (by simp; omega) j v hv
        rwa [show off + (k + 1) + j = off + k + (j + 1) by omega] at this
theorem fill_ok (place : Nat → Option (Nat × Nat)) : ∀ (parts : List (Nat × Value)) (cells : Array Value),
  (∀ q ∈ parts, ∃ off s, place q.1 = some (off, s) ∧ q.2.cells.size = s ∧ off + s ≤ cells.size) →
  (parts.Pairwise fun q r => ∀ o s o' s', place q.1 = some (o, s) → place r.1 = some (o', s') → o + s ≤ o' ∨ o' + s' ≤ o) →
  ∃ r, Instr.fill place cells parts = some r ∧ r.size = cells.size ∧
    (∀ j, (∀ q ∈ parts, ∀ o s, place q.1 = some (o, s) → j < o ∨ o + s ≤ j) → r[j]? = cells[j]?) ∧
    (∀ q ∈ parts, ∀ o s, place q.1 = some (o, s) → ∀ j v, q.2.cells[j]? = some v → r[o + j]? = some v)
 | [], cells, _, _ => ⟨cells, rfl, rfl, fun _ _ => rfl, fun q hq => by cases hq⟩
 | (i, v) :: parts, cells, h1, h2 => by
     obtain ⟨off, s, p1, p2, p3⟩ := h1 (i, v) (by simp)
     simp only at p1 p2
     rw [List.pairwise_cons] at h2
     have hz : v.cells.zipIdx.foldl (fun cs (q : Value × Nat) => cs.setIfInBounds (off + q.2) q.1) cells = (v.cells.toList.zipIdx 0).foldl (fun cs (q : Value × Nat) => cs.setIfInBounds (off + q.2) q.1) cells := by
      rw [← Array.foldl_toList, Array.toList_zipIdx]
     obtain ⟨f1, f2, f3⟩ := foldl_set off v.cells.toList 0 cells
     rw [← hz] at f1 f2 f3
     simp only [Array.length_toList] at f2 f3
     generalize hc : v.cells.zipIdx.foldl (fun cs (q : Value × Nat) => cs.setIfInBounds (off + q.2) q.1) cells = cells1 at f1 f2 f3
     obtain ⟨r, r1, r2, r3, r4⟩ := fill_ok place parts cells1 (fun q hq => by
      obtain ⟨o', s', g1, g2, g3⟩ := h1 q (List.mem_cons_of_mem _ hq)
      exact ⟨o', s', g1, g2, by rw [f1]; exact g3⟩) h2.2
     refine ⟨r, ?_, by rw [r2, f1], fun j hj => ?_, fun q hq o' s' hp j u hu => ?_⟩
     ·have hb : (decide (v.cells.size ≠ s) || decide (off + v.cells.size > cells.size)) = false := by simp; omega
      simp only [Instr.fill, p1, hb]
      rw [show (v.cells.zipIdx.foldl (fun cs x => match x with | (c, j) => cs.setIfInBounds (off + j) c) cells) = cells1 from hc]
      simpa using r1
     ·rw [r3 j (fun q hq => hj q (List.mem_cons_of_mem _ hq)), f2 j (by have := hj (i, v) (by simp) off s p1; omega)]
     ·rcases List.mem_cons.1 hq with rfl | hq
      ·simp only at hp hu
       rw [p1] at hp
       cases hp
       have hjl : j < v.cells.size := (Array.getElem?_eq_some_iff.1 hu).1
       rw [r3 (off + j) (fun q hq o' s' hp' => by
        have := h2.1 q hq off s o' s' p1 hp'
        omega)]
       exact f3 (by omega) j u (by simpa using hu)
      ·exact r4 q hq o' s' hp j u hu
section
variable {E : Env} {C : Ctx} {st : St} {a : Act} {w : World} {I : Nat → Prop} {rt : Nat → List Value} {fp : Nat → List Nat} {o : Oper} {Q : AV → List (Nat × Tree) → Prop}
theorem At.alloc {w : World} {cells : Array Value} {T : TypeId} {o : Nat} {cs : List Value} (h : ∀ j v, cs[j]? = some v → cells[o + j]? = some v) : At (w.alloc (.cells cells T)) w.heap.size o cs := fun j v hj => by
 rw [World.cell?_alloc_new]; exact h j v hj
theorem Fr.alloc {w : World} {cells : Array Value} {T : TypeId} {lo hi : Nat} (h : hi ≤ cells.size) : Fr (w.alloc (.cells cells T)) w.heap.size lo hi := fun j _ h2 => by
 rw [World.cell?_alloc_new, World.frozen?_alloc_new]
 exact ⟨by simp; omega, rfl⟩
theorem Yields.new {d : Nat} {t : Tree} {v : Value} {cs : List Value} {f : List Nat} {cells : Array Value} {T : TypeId} (hn : lk st.h d = none) (hR : RelAt C st a.tmps w I rt fp)
  (hr : (execOp a.eval o).run E.P w = .ok (.value v) (w.alloc (.cells cells T))) (hv : v = regV t.1 cs) (hrep : Rep (md I C.B) (w.alloc (.cells cells T)) t.1 cs t.2 f) (hf : ∀ b ∈ f, b = w.heap.size) (hnd : f.Nodup)
  (hq : Q (.ref d []) [(d, t)]) : Yields E C st a w I rt fp o Q := by
 refine ⟨v, _, I, fun _ => cs, fun _ => f, .ref d [], [(d, t)], hr, .alloc w _, fun _ h => h, fun _ h => .inl h, .one hn hrep hnd (fun b hb => ?_), ?_, hq⟩
 ·rw [hf b hb]
  exact ⟨Nat.le_refl _, by simp, fun h => by have := hR.ib _ (.inl h); omega⟩
 ·rw [hv]
  have hl : lk ([(d, t)] ++ st.h) d = some t := by rw [List.singleton_append, lk_cons, if_pos rfl]
  refine .ref (t := t) (τ' := t.1) (loc := none) hl ?_
  have : mixv [(d, t)] (fun _ => cs) rt d = cs := by simp [mixv, lk_cons]
  rw [this]
  exact Nav.here
def makeF (tt : List (TypeId × Ty)) (an : List (Nat × Ty)) (h : List (Nat × Tree)) (d : Nat) (T : TypeId) (l c : AV) : Res :=
 match isSlcT tt T, lk an d, lk h d with
 | some u, some (.osl t), none => match zeroD t, l, c with
   | some z, .val (.int _) l, .val (.int _) c => bif sameLay u t && Nat.ble t.size 2000 then
      .part (Nat × Nat) (fun q => l = (q.1 : Int) ∧ c = (q.2 : Int) ∧ q.1 ≤ q.2 ∧ q.2 ≤ lim) (fun q => (.ref d [], [(d, ⟨.osl t, List.replicate q.1 z⟩)])) else .bad
   | _, _, _ => .bad
 | _, _, _ => .bad
theorem madeCells_get (z : Array Value) (n i j : Nat) (v : Value) (_hz : 0 < z.size) (hv : z[j]? = some v) (hi : i < n) : (madeCells z (n * z.size))[i * z.size + j]? = some v := by
 have hj : j < z.size := (Array.getElem?_eq_some_iff.1 hv).1
 have h1 : (i + 1) * z.size ≤ n * z.size := Nat.mul_le_mul_right _ hi
 rw [Nat.add_mul, Nat.one_mul] at h1
 have h2 : (i * z.size + j) % z.size = j := by
  rw [Nat.add_comm, Nat.add_mul_mod_self_right, Nat.mod_eq_of_lt hj]
 simp only [madeCells, Array.getElem?_map, Array.getElem?_range]
 rw [if_pos (by omega)]
 simp only [Option.map_some, h2]
 rw [← hv, getElem!_pos z j hj, Array.getElem?_eq_getElem hj]
theorem makeF_sound (hR : RelAt C st a.tmps w I rt fp) {an : List (Nat × Ty)} {d : Nat} {T : TypeId} {l c : Operand} (ho : o.op = .makeSlice T l c) (h : (makeF E.tt an st.h d T (opA st.g l) (opA st.g c)).K Q) :
  Yields E C st a w I rt fp o Q := by
 have hl := hR.opA l
 have hc := hR.opA c
 unfold makeF at h
 split at h
 case h_2 => exact h.elim
 rename_i u t hT han hd
 split at h
 case h_2 => exact h.elim
 rename_i z kl n kc m hz el ec
 cases hb : (sameLay u t && Nat.ble t.size 2000) with
 | false => rw [hb] at h; exact h.elim
 | true =>
   rw [hb] at h
   simp only [Bool.and_eq_true] at hb
   obtain ⟨⟨n', m'⟩, ⟨rfl, rfl, h1, h2⟩, h⟩ := h
   simp only at h1 h2 h
   have hsz := Nat.le_of_ble_eq_true hb.2
   rw [el] at hl; rw [ec] at hc
   generalize hvl : a.eval l = vl at hl
   generalize hvc : a.eval c = vc at hc
   cases hl with | val r1 => cases hc with | val r2 =>
   obtain ⟨_, rfl⟩ := r1
   obtain ⟨_, rfl⟩ := r2
   obtain ⟨j, S, _, h5, h6⟩ := isSlcT.ok hT
   have h6' := h6.lay hb.1
   obtain ⟨i, zv, q1, q2, q3, q4⟩ := zero_rep h6' hz
   obtain ⟨i', _, q5, _⟩ := h6'.info
   have e0 := q5.info
   rw [q1] at e0; cases e0
   have hzl : zv.cells.size = t.size := by have := (q4 (md I C.B) w).len; simpa using this
   have hbytes : (i.bytes : Int) * (m' : Int) ≤ 281474976710656 := by
    have : i.bytes * m' ≤ 48000 * lim := Nat.mul_le_mul (by have := q5.bytes; omega) h2
    have h3 : ((i.bytes * m' : Nat) : Int) ≤ 281474976710656 := by unfold lim at this; omega
    rwa [Int.natCast_mul] at h3
   have hrun := run_make (P := E.P) w T S i zv h5 q1 q2 kl kc (n' : Int) (m' : Int) (by omega) (by omega) hbytes (by unfold lim at h2; omega)
   simp only [Int.toNat_natCast, q5.size] at hrun
   rw [← hzl] at hrun
   refine .new (d := d) (cells := madeCells zv.cells (m' * zv.cells.size)) (T := S) (cs := [.slice (some ⟨w.heap.size, 0, none⟩) n' m']) (f := [w.heap.size]) hd hR ?_ rfl ?_ (by simp) (by simp) h
   ·simp [execOp, ho, hvl, hvc, regV, hrun]
   ·refine ⟨some ⟨w.heap.size, 0, none⟩, m', by simp, .inr ⟨w.heap.size, 0, List.replicate n' [], rfl, by simp, by simp, by simpa using h1, Fr.alloc (by rw [size_madeCells, hzl]; omega), fun k x g hx hg => ?_⟩⟩
    have hk : k < n' := by have := (List.getElem?_eq_some_iff.1 hx).1; simpa using this
    obtain rfl : z = x := by rw [List.getElem?_replicate, if_pos hk] at hx; exact Option.some.inj hx
    obtain rfl : [] = g := by rw [List.getElem?_replicate, if_pos hk] at hg; exact Option.some.inj hg
    refine ⟨zv.cells.toList, by simpa using hzl, At.alloc (fun j v hj => ?_), q4 _ _⟩
    rw [Nat.zero_add, ← hzl]
    exact madeCells_get _ _ _ _ _ (by rw [hzl]; exact h6'.pos) (by simpa using hj) (by omega)
def allocF (tt : List (TypeId × Ty)) (an : List (Nat × Ty)) (h : List (Nat × Tree)) (d : Nat) (T : TypeId) : Res :=
 match lk tt T, lk an d, lk h d with
 | some u, some t, none => match zeroD t with
   | some z => bif sameLay u t then .tot (.ref d []) [(d, ⟨.optr t, z⟩)] else .bad
   | none => .bad
 | _, _, _ => .bad
theorem Yields.box {d : Nat} {τ : Ty} {x : τ.den} {cs : List Value} {T : TypeId} (hn : lk st.h d = none) (hR : RelAt C st a.tmps w I rt fp) (_hT : TyF E.P τ T)
  (hr : (execOp a.eval o).run E.P w = .ok (.value (.pointer (some ⟨w.heap.size, 0, none⟩))) (w.alloc (.cells cs.toArray T))) (hrep : ∀ w', (∀ m b, md I C.B m b → Sm w w' b) → Rep (md I C.B) w' τ cs x [])
  (hq : Q (.ref d []) [(d, ⟨.optr τ, x⟩)]) : Yields E C st a w I rt fp o Q := by
 have hM : ∀ m b, md I C.B m b → Sm w (w.alloc (.cells cs.toArray T)) b := fun m b hb => .of_heap ((Grew.alloc w _).heap b (hR.ib b (md_or hb)))
 have hr' := hrep _ hM
 have hlen := hr'.len
 refine .new (d := d) (t := ⟨.optr τ, x⟩) (cs := [.pointer (some ⟨w.heap.size, 0, none⟩)]) (f := [w.heap.size]) hn hR hr rfl
  ⟨w.heap.size, 0, [], cs, rfl, rfl, hlen, At.alloc (fun j v hj => by simpa using hj), Fr.alloc (by simp [hlen]), hr'⟩ (by simp) (by simp) hq
theorem allocF_sound (hR : RelAt C st a.tmps w I rt fp) {an : List (Nat × Ty)} {d : Nat} {T : TypeId} (ho : o.op = .alloc T) (h : (allocF E.tt an st.h d T).K Q) : Yields E C st a w I rt fp o Q := by
 unfold allocF at h
 split at h
 case h_2 => exact h.elim
 rename_i u t hT han hd
 split at h
 case h_2 => exact h.elim
 rename_i z hz
 cases hb : sameLay u t with
 | false => rw [hb] at h; exact h.elim
 | true =>
   rw [hb] at h
   have hf := (E.ok T u hT).lay hb
   obtain ⟨i, zv, q1, q2, q3, q4⟩ := zero_rep hf hz
   refine .box (cs := zv.cells.toList) hd hR hf ?_ (fun w' _ => q4 _ _) h
   simp [execOp, ho, Instr.alloc, zeroValue, typeInfo, q1, q2, newVar, newRow]
def boxF (tt : List (TypeId × Ty)) (h : List (Nat × Tree)) (d : Nat) (T : TypeId) (x : AV) : Res :=
 match lk tt T, lk h d with
 | some u, none => match x with
   | .val τ x => bif sameLay u τ then .tot (.ref d []) [(d, ⟨.optr τ, x⟩)] else .bad
   | _ => .bad
 | _, _ => .bad
theorem boxF_sound (hR : RelAt C st a.tmps w I rt fp) {d : Nat} {T : TypeId} {x : Operand} (ho : o.op = .box T x) (h : (boxF E.tt st.h d T (opA st.g x)).K Q) : Yields E C st a w I rt fp o Q := by
 have hx := hR.opA x
 unfold boxF at h
 split at h
 case h_2 => exact h.elim
 rename_i u hT hd
 split at h
 case h_2 => exact h.elim
 rename_i τ y ex
 cases hb : sameLay u τ with
 | false => rw [hb] at h; exact h.elim
 | true =>
   rw [hb] at h
   rw [ex] at hx
   generalize hv : a.eval x = v at hx
   cases hx with | val r =>
   rename_i cs
   have hf := (E.ok T u hT).lay hb
   refine .box (cs := cs) hd hR hf ?_ (fun w' hM => r.mono (fun m b hb => ⟨hb, hM m b hb⟩) (by simp)) h
   simp [execOp, ho, hv, Instr.box, newVar, newRow, regV_cells hf r.len r.one]
def coe (t : Ty) (x : AV) : Option t.den :=
 match x with
 | .val τ x => if h : τ = t then some (h ▸ x) else none
 | .cv v => cvC t v.cells.toList
 | _ => none
def coes (t : Ty) : List AV → Option (List t.den)
 | [] => some []
 | x :: r => match coe t x, coes t r with
   | some y, some l => some (y :: l)
   | _, _ => none
theorem coe_rep {M : Md → Nat → Prop} {h : List (Nat × Tree)} {t : Ty} {T : TypeId} (hT : TyF E.P t T) {x : AV} {v : Value} (hx : AVok M w h rt fp x v) {y : t.den} (hc : coe t x = some y) : Rep M w t v.cells.toList y [] := by
 unfold coe at hc
 split at hc
 ·rename_i τ z
  split at hc
  ·rename_i e
   subst e
   cases hc
   cases hx with | val r =>
   rw [regV_cells hT r.len r.one]
   exact r
  ·cases hc
 ·cases hx
  exact cvC_rep hc
 ·cases hc
def seqFrom : List (Nat × Operand) → Nat → Bool
 | [], _ => true
 | q :: r, k => Nat.beq q.1 k && seqFrom r (k + 1)
def bslF (tt : List (TypeId × Ty)) (an : List (Nat × Ty)) (h : List (Nat × Tree)) (g : Operand → AV) (d : Nat) (T : TypeId) (n : Nat) (parts : List (Nat × Operand)) : Res :=
 match isSlcT tt T, lk h d with
 | some u, none =>
   let t := match lk an d with | some (.osl t) => t | _ => u
   bif sameLay u t && Nat.ble t.size 2000 && Nat.ble n 1000 && seqFrom parts 0 && Nat.beq parts.length n then
    match coes t (parts.map fun q => g q.2) with
    | some xs => .tot (.ref d []) [(d, ⟨.osl t, xs⟩)]
    | none => .bad
   else .bad
 | _, _ => .bad
theorem coes_get {t : Ty} : ∀ {l : List AV} {xs : List t.den}, coes t l = some xs → xs.length = l.length ∧ ∀ (i : Nat) (x : t.den), xs[i]? = some x → ∃ y : AV, l[i]? = some y ∧ coe t y = some x
 | [], xs, h => by cases h; exact ⟨rfl, fun i x h => by simp at h⟩
 | y :: l, xs, h => by
     simp only [coes] at h
     split at h
     ·rename_i z r hz hr
      cases h
      obtain ⟨h1, h2⟩ := coes_get hr
      refine ⟨by simp [h1], fun i x hi => ?_⟩
      cases i with
      | zero => simp only [List.getElem?_cons_zero, Option.some.injEq] at hi; subst hi; exact ⟨y, rfl, hz⟩
      | succ i => simpa using h2 i x (by simpa using hi)
     ·cases h
theorem seqFrom_get : ∀ {l : List (Nat × Operand)} {k : Nat}, seqFrom l k = true → ∀ (i : Nat) (q : Nat × Operand), l[i]? = some q → q.1 = k + i
 | [], _, _, i, q, h => by simp at h
 | x :: l, k, h, i, q, hi => by
     simp only [seqFrom, Bool.and_eq_true] at h
     cases i with
     | zero => simp only [List.getElem?_cons_zero, Option.some.injEq] at hi; subst hi; exact Nat.eq_of_beq_eq_true h.1
     | succ i => have := seqFrom_get h.2 i q (by simpa using hi); omega
theorem bslF_sound (hR : RelAt C st a.tmps w I rt fp) {an : List (Nat × Ty)} {d : Nat} {T : TypeId} {n : Nat} {parts : Array (Nat × Operand)} (ho : o.op = .buildSlice T n parts)
  (h : (bslF E.tt an st.h (opA st.g) d T n parts.toList).K Q) : Yields E C st a w I rt fp o Q := by
 unfold bslF at h
 split at h
 case h_2 => exact h.elim
 rename_i u hT hd
 generalize ht : (match lk an d with | some (.osl t) => t | _ => u) = t at h
 simp only at h
 cases hb : (sameLay u t && Nat.ble t.size 2000 && Nat.ble n 1000 && seqFrom parts.toList 0 && Nat.beq parts.toList.length n) with
 | false => rw [hb] at h; exact h.elim
 | true =>
   rw [hb] at h
   simp only [Bool.and_eq_true] at hb
   obtain ⟨⟨⟨⟨b1, b2⟩, b3⟩, b4⟩, b5⟩ := hb
   have b2 := Nat.le_of_ble_eq_true b2
   have b3 := Nat.le_of_ble_eq_true b3
   have b5 : parts.toList.length = n := Nat.eq_of_beq_eq_true b5
   simp only [cond_true] at h
   split at h
   case h_2 => exact h.elim
   rename_i xs hxs
   obtain ⟨j, S, _, h5, h6⟩ := isSlcT.ok hT
   have h6' := h6.lay b1
   obtain ⟨i, dd, q5, _⟩ := h6'.info
   have hpos := h6'.pos
   obtain ⟨c1, c2⟩ := coes_get hxs
   simp only [List.length_map] at c1
   have hxn : xs.length = n := by omega
   have hlen : n * t.size ≤ 16777216 := by
    have : n * t.size ≤ 1000 * 2000 := Nat.mul_le_mul b3 b2
    omega
   -- each element's cells
   have hel : ∀ (k : Nat) (q : Nat × Operand), parts.toList[k]? = some q → ∃ x : t.den, xs[k]? = some x ∧ Rep (md I C.B) w t (a.eval q.2).cells.toList x [] := by
    intro k q hk
    have hkl : k < xs.length := by have := (List.getElem?_eq_some_iff.1 hk).1; omega
    obtain ⟨y, e1, e2⟩ := c2 k xs[k] (by simp)
    rw [List.getElem?_map, hk] at e1
    simp only [Option.map_some, Option.some.injEq] at e1
    subst e1
    exact ⟨xs[k], by simp, coe_rep h6' (hR.opA q.2) e2⟩
   obtain ⟨iz, hiz0, hiz1⟩ : ∃ zc : Array Value, (n * t.size = 0 → zc = #[]) ∧ (n * t.size ≠ 0 → ∃ zz, (zeroValue S).run E.P w = .ok zz w ∧ zc = zz.cells) := by
    by_cases h0 : n * t.size = 0
    ·exact ⟨#[], fun _ => rfl, fun h => absurd h0 h⟩
    ·obtain ⟨zz, _, hzz⟩ := TyF.hasZero h6'
     exact ⟨zz.cells, fun h => absurd h h0, fun _ => ⟨zz, by simp [zeroValue, typeInfo, q5.info, hzz i q5.info], rfl⟩⟩
   obtain ⟨r, r1, r2, r3, r4⟩ := fill_ok (fun i => some (i * t.size, t.size)) (parts.toList.map fun q => (q.1, a.eval q.2)) ((Array.range (n * t.size)).map (iz[· % iz.size]!)) (by
    intro q hq
    obtain ⟨p, hp, rfl⟩ := List.mem_map.1 hq
    obtain ⟨k, hk, rfl⟩ := List.mem_iff_getElem.1 hp
    have hk' : parts.toList[k]? = some parts.toList[k] := by simp
    obtain ⟨x, _, hx⟩ := hel k _ hk'
    have e := seqFrom_get b4 k _ hk'
    have : (k + 1) * t.size ≤ n * t.size := Nat.mul_le_mul_right _ (by omega)
    rw [Nat.add_mul, Nat.one_mul] at this
    refine ⟨_, _, rfl, by have := hx.len; simpa using this, ?_⟩
    simp only [Array.size_map, Array.size_range]
    rw [e, Nat.zero_add]
    exact this) (by
    rw [List.pairwise_iff_getElem]
    intro k l hk hl hkl o1 s1 o2 s2 e1 e2
    simp only [List.getElem_map, Option.some.injEq, Prod.mk.injEq] at e1 e2
    simp only [List.length_map] at hk hl
    have f1 := seqFrom_get b4 k parts.toList[k] (by simp)
    have f2 := seqFrom_get b4 l parts.toList[l] (by simp)
    obtain ⟨rfl, rfl⟩ := e1
    obtain ⟨rfl, rfl⟩ := e2
    left
    rw [f1, f2]
    have : (0 + k + 1) * t.size ≤ (0 + l) * t.size := Nat.mul_le_mul_right _ (by omega)
    rw [Nat.add_mul, Nat.one_mul] at this
    exact this)
   have hrs : r.size = n * t.size := by rw [r2]; simp
   refine .new (d := d) (t := ⟨.osl t, xs⟩) (cells := r) (T := S) (cs := [.slice (some ⟨w.heap.size, 0, none⟩) n n]) (f := [w.heap.size]) hd hR ?_ rfl ?_ (by simp) (by simp) h
   ·have hsz := h6'.sizeOf w
    have hnb : ¬ (16777216 < n * t.size) := by omega
    have hpm : (Array.map (fun x => (x.fst, a.eval x.snd)) parts).toList = parts.toList.map fun q => (q.1, a.eval q.2) := by simp
    simp only [execOp, ho, Instr.buildSlice, Sem.run_bind, run_underlying h5, Result.andThen_ok, hsz]
    rw [if_neg (by omega)]
    by_cases h0 : n * t.size = 0
    ·rw [if_pos h0]
     obtain rfl := hiz0 h0
     rw [hpm]
     simp only [Sem.run_bind, Sem.run_pure, Result.andThen_ok, r1, newRow, newObj]
     rfl
    ·rw [if_neg h0]
     obtain ⟨zz, hz1, rfl⟩ := hiz1 h0
     rw [hpm]
     simp only [Sem.run_bind, Sem.run_pure, Result.andThen_ok, hz1, r1, newRow, newObj]
     rfl
   ·refine ⟨some ⟨w.heap.size, 0, none⟩, n, by rw [hxn], .inr ⟨w.heap.size, 0, List.replicate n [], rfl, by simp, by simp [hxn], (by show xs.length ≤ n; omega), Fr.alloc (by rw [hrs]; omega), fun k x g hx hg => ?_⟩⟩
    have hk : k < n := by have : k < xs.length := (List.getElem?_eq_some_iff.1 hx).1; omega
    obtain rfl : [] = g := by rw [List.getElem?_replicate, if_pos hk] at hg; exact Option.some.inj hg
    have hk' : parts.toList[k]? = some (parts.toList[k]'(by omega)) := by simp
    obtain ⟨x', hx', hrep⟩ := hel k _ hk'
    rw [hx] at hx'
    obtain rfl := Option.some.inj hx'
    refine ⟨_, hrep.len, At.alloc (fun j v hj => ?_), hrep.mono (fun m b hb => ⟨hb, .of_heap ((Grew.alloc w _).heap b (hR.ib b (md_or hb)))⟩) (by simp)⟩
    have := r4 (parts.toList[k].1, a.eval parts.toList[k].2) (List.mem_map.2 ⟨parts.toList[k], List.getElem_mem _, rfl⟩) _ _ rfl j v (by simpa using hj)
    have e := seqFrom_get b4 k _ hk'
    rw [e, Nat.zero_add] at this
    simpa using this
end
end Go.Fw
end
section
namespace Go.Fw
def pk (l : List (Nat × Operand)) (n : Nat) : Option Operand := lk l n
def mkSt (g : Operand → AV) (parts : List (Nat × Operand)) : Ty → Nat → Option Tree
 | .pr a b, n =>
   match (match pk parts n with
    | none => match zeroD a with
      | some z => some (⟨a, z⟩ : Tree)
      | none => none
    | some x => match g x with
      | .val τ y => bif sameLay a τ then some ⟨τ, y⟩ else none
      | .cv v => match cvC a v.cells.toList with
        | some y => some ⟨a, y⟩
        | none => none
      | _ => none), mkSt g parts b (n + 1) with
   | some x, some y => some ⟨.pr x.1 y.1, (x.2, y.2)⟩
   | _, _ => none
 | .nil, _ => some ⟨.nil, ()⟩
 | _, _ => none
def incr : List (Nat × Operand) → Nat → Bool
 | [], _ => true
 | q :: r, k => Nat.ble k q.1 && incr r (q.1 + 1)
def nFlds : Ty → Nat
 | .pr _ b => nFlds b + 1
 | _ => 0
theorem incr_ge : ∀ {l : List (Nat × Operand)} {k : Nat}, incr l k = true → ∀ q ∈ l, k ≤ q.1
 | [], _, _, q, h => by cases h
 | x :: l, k, h, q, hq => by
     simp only [incr, Bool.and_eq_true] at h
     rcases List.mem_cons.1 hq with rfl | hq
     ·exact Nat.le_of_ble_eq_true h.1
     ·have := incr_ge h.2 q hq
      have := Nat.le_of_ble_eq_true h.1
      omega
theorem incr_pw : ∀ {l : List (Nat × Operand)} {k : Nat}, incr l k = true → l.Pairwise fun q r => q.1 < r.1
 | [], _, _ => List.Pairwise.nil
 | x :: l, k, h => by
     simp only [incr, Bool.and_eq_true] at h
     exact List.Pairwise.cons (fun q hq => by have := incr_ge h.2 q hq; omega) (incr_pw h.2)
theorem lk_mem {α : Type} : ∀ {l : List (Nat × α)} {k : Nat} {v : α}, lk l k = some v → (k, v) ∈ l
 | [], _, _, h => by cases h
 | (k0, v0) :: r, k, v, h => by
     rw [lk_cons] at h
     split at h
     ·rename_i e; subst e; cases h; simp
     ·exact List.mem_cons_of_mem _ (lk_mem h)
theorem lk_none {α : Type} : ∀ {l : List (Nat × α)} {k : Nat}, lk l k = none → ∀ q ∈ l, q.1 ≠ k
 | [], _, _, q, hq => by cases hq
 | (k0, v0) :: r, k, h, q, hq => by
     rw [lk_cons] at h
     split at h
     ·cases h
     ·rename_i e
      rcases List.mem_cons.1 hq with rfl | hq
      ·exact e
      ·exact lk_none h q hq
theorem nFlds_lt {P : Program} : ∀ {u : Ty} {fs : List Field} {off : Nat} {zs : List Value}, FldF P u fs off zs → ∀ n, n < nFlds u → ∃ s t, fldSteps u n = some (s, t)
 | .pr a b, f :: r, off, zs, h, 0, _ => ⟨_, _, rfl⟩
 | .pr a b, f :: r, off, zs, h, n + 1, hn => by
    obtain ⟨s, t, hs⟩ := nFlds_lt (u := b) h.2.2.2.2 n (by simp only [nFlds] at hn; omega)
    exact ⟨.snd :: s, t, by simp [fldSteps, hs]⟩
 | .pr _ _, [], _, _, h, _, _ => h.elim
 | .int _, _, _, _, _, _, hn => by simp [nFlds] at hn
 | .bool, _, _, _, _, _, hn => by simp [nFlds] at hn
 | .str, _, _, _, _, _, hn => by simp [nFlds] at hn
 | .slc _ _, _, _, _, _, _, hn => by simp [nFlds] at hn
 | .osl _, _, _, _, _, _, hn => by simp [nFlds] at hn
 | .ptr _ _, _, _, _, _, _, hn => by simp [nFlds] at hn
 | .optr _, _, _, _, _, _, hn => by simp [nFlds] at hn
 | .st _, _, _, _, _, _, hn => by simp [nFlds] at hn
 | .nil, _, _, _, _, _, hn => by simp [nFlds] at hn
 | .blk, _, _, _, _, _, hn => by simp [nFlds] at hn
theorem fldOff_mono : ∀ {u : Ty} {n m : Nat} {s s' : List Step} {t t' : Ty}, fldSteps u n = some (s, t) → fldSteps u m = some (s', t') → n < m → fldOff u n + t.size ≤ fldOff u m
 | .pr a b, 0, m + 1, s, s', t, t', h, h', _ => by
    simp only [fldSteps, Option.some.injEq, Prod.mk.injEq] at h
    obtain ⟨_, rfl⟩ := h
    simp [fldOff]
 | .pr a b, n + 1, m + 1, s, s', t, t', h, h', hl => by
    simp only [fldSteps] at h h'
    cases hq : fldSteps b n with
    | none => rw [hq] at h; cases h
    | some q =>
      cases hq' : fldSteps b m with
      | none => rw [hq'] at h'; cases h'
      | some q' =>
        rw [hq] at h; rw [hq'] at h'
        simp only [Option.some.injEq, Prod.mk.injEq] at h h'
        obtain ⟨_, rfl⟩ := h
        obtain ⟨_, rfl⟩ := h'
        have := fldOff_mono (u := b) (s := q.1) (t := q.2) (s' := q'.1) (t' := q'.2) hq hq' (by omega)
        simp only [fldOff]; omega
 | .int _, _, _, _, _, _, _, h, _, _ => by cases h
 | .bool, _, _, _, _, _, _, h, _, _ => by cases h
 | .str, _, _, _, _, _, _, h, _, _ => by cases h
 | .slc _ _, _, _, _, _, _, _, h, _, _ => by cases h
 | .osl _, _, _, _, _, _, _, h, _, _ => by cases h
 | .ptr _ _, _, _, _, _, _, _, h, _, _ => by cases h
 | .optr _, _, _, _, _, _, _, h, _, _ => by cases h
 | .st _, _, _, _, _, _, _, h, _, _ => by cases h
 | .nil, _, _, _, _, _, _, h, _, _ => by cases h
 | .blk, _, _, _, _, _, _, h, _, _ => by cases h
theorem fldSteps_lt : ∀ {u : Ty} {n : Nat} {s : List Step} {t : Ty}, fldSteps u n = some (s, t) → n < nFlds u
 | .pr a b, 0, _, _, _ => by simp [nFlds]
 | .pr a b, n + 1, s, t, h => by
    simp only [fldSteps] at h
    split at h
    ·rename_i q hq
     have := fldSteps_lt (u := b) (s := q.1) (t := q.2) hq
     simp only [nFlds]; omega
    ·cases h
 | .int _, _, _, _, h => by cases h
 | .bool, _, _, _, h => by cases h
 | .str, _, _, _, h => by cases h
 | .slc _ _, _, _, _, h => by cases h
 | .osl _, _, _, _, h => by cases h
 | .ptr _ _, _, _, _, h => by cases h
 | .optr _, _, _, _, h => by cases h
 | .st _, _, _, _, h => by cases h
 | .nil, _, _, _, h => by cases h
 | .blk, _, _, _, h => by cases h
theorem incr_lk : ∀ {l : List (Nat × Operand)} {k : Nat} {p : Nat × Operand}, incr l k = true → p ∈ l → pk l p.1 = some p.2
 | [], _, _, _, h => by cases h
 | x :: l, k, p, h, hp => by
     simp only [incr, Bool.and_eq_true] at h
     obtain ⟨x1, x2⟩ := x
     unfold pk
     rw [lk_cons]
     rcases List.mem_cons.1 hp with rfl | hp
     ·rw [if_pos rfl]
     ·have := incr_ge h.2 p hp
      simp only at this
      rw [if_neg (by omega)]
      exact incr_lk h.2 hp
section
variable {E : Env} {C : Ctx} {st : St} {a : Act} {w : World} {I : Nat → Prop} {rt : Nat → List Value} {fp : Nat → List Nat} {o : Oper} {Q : AV → List (Nat × Tree) → Prop}
def bldF (tt : List (TypeId × Ty)) (g : Operand → AV) (T : TypeId) (parts : List (Nat × Operand)) : Res :=
 match isStT tt T with
 | none => .bad
 | some u => bif incr parts 0 && parts.all (fun q => Nat.blt q.1 (nFlds u)) then match mkSt g parts u 0 with
    | some t => .tot (.val (.st t.1) t.2) []
    | none => .bad
   else .bad
theorem mkSt_rep {P : Program} {M : Md → Nat → Prop} {h : List (Nat × Tree)} {g : Operand → AV} {ev : Operand → Value} (hg : ∀ x, AVok M w h rt fp (g x) (ev x)) {parts : List (Nat × Operand)} {cells : List Value} :
  ∀ {u : Ty} {n : Nat} {fs : List Field} {off : Nat} {zs : List Value} {t : Tree}, FldF P u fs off zs → mkSt g parts u n = some t → cells.length = off + u.size →
    (∀ m s τ, fldSteps u m = some (s, τ) → (∀ x, pk parts (n + m) = some x → (ev x).cells.size = τ.size ∧ (cells.drop (off + fldOff u m)).take τ.size = (ev x).cells.toList) ∧ (pk parts (n + m) = none → (cells.drop (off + fldOff u m)).take τ.size = (zs.drop (fldOff u m)).take τ.size)) →
    Rep M w t.1 (cells.drop off) t.2 [] ∧ t.1.size = u.size
 | .pr a b, n, f :: r, off, zs, t, hF, hm, hl, hc => by
    simp only [mkSt] at hm
    split at hm
    case h_2 => cases hm
    rename_i x y hx hy
    cases hm
    obtain ⟨h1, h2, h3, ⟨i, z, q1, q2, q3⟩, h5⟩ := hF
    have hc0 := hc 0 _ a rfl
    simp only [Nat.add_zero, fldOff, List.drop_zero] at hc0
    have hA : Rep M w x.1 ((cells.drop off).take a.size) x.2 [] ∧ x.1.size = a.size := by
     split at hx
     ·rename_i hp
      split at hx
      ·rename_i z' hz
       cases hx
       obtain ⟨i', zv, r1, r2, _, r4⟩ := zero_rep h2 hz
       rw [q1] at r1; cases r1
       rw [q2] at r2; cases r2
       rw [hc0.2 hp, q3]
       exact ⟨r4 M w, rfl⟩
      ·cases hx
     ·rename_i p hp
      have hgp := hg p
      obtain ⟨k1, k2⟩ := hc0.1 p hp
      split at hx
      ·rename_i τ y' e
       cases hb : sameLay a τ with
       | false => rw [hb] at hx; cases hx
       | true =>
         rw [hb] at hx
         cases hx
         rw [e] at hgp
         rw [k2]
         generalize hv : ev p = v at hgp
         cases hgp with | val rr =>
         rw [regV_cells (h2.lay hb) rr.len rr.one]
         exact ⟨rr, (sameLay.size hb).symm⟩
      ·rename_i v e
       split at hx
       ·rename_i y' hy'
        cases hx
        rw [e] at hgp
        rw [k2]
        generalize hv : ev p = v' at hgp
        cases hgp
        exact ⟨cvC_rep hy', rfl⟩
       ·cases hx
      ·cases hx
    have hB := mkSt_rep hg (parts := parts) (cells := cells) (u := b) (n := n + 1) (off := off + a.size) (zs := zs.drop a.size) h5 hy (by rw [hl]; simp only [Ty.size]; omega) (by
     intro m s τ hs
     have := hc (m + 1) (.snd :: s) τ (by simp [fldSteps, hs])
     simp only [fldOff] at this
     rw [show n + (m + 1) = n + 1 + m by omega, show off + (a.size + fldOff b m) = off + a.size + fldOff b m by omega] at this
     rw [List.drop_drop]
     exact this)
    refine ⟨⟨[], [], rfl, ?_, ?_⟩, by simp only [Ty.size]; omega⟩
    ·rw [hA.2]; exact hA.1
    ·rw [hA.2, List.drop_drop]; exact hB.1
 | .nil, n, [], off, zs, t, hF, hm, hl, hc => by
    cases hm
    exact ⟨⟨rfl, by rw [List.drop_eq_nil_iff]; simp only [Ty.size] at hl; omega⟩, rfl⟩
 | .pr _ _, _, [], _, _, _, h, _, _, _ => h.elim
 | .nil, _, _ :: _, _, _, _, h, _, _, _ => h.elim
 | .int _, _, _, _, _, _, h, _, _, _ => by cases h
 | .bool, _, _, _, _, _, h, _, _, _ => by cases h
 | .str, _, _, _, _, _, h, _, _, _ => by cases h
 | .slc _ _, _, _, _, _, _, h, _, _, _ => by cases h
 | .osl _, _, _, _, _, _, h, _, _, _ => by cases h
 | .ptr _ _, _, _, _, _, _, h, _, _, _ => by cases h
 | .optr _, _, _, _, _, _, h, _, _, _ => by cases h
 | .st _, _, _, _, _, _, h, _, _, _ => by cases h
 | .blk, _, _, _, _, _, h, _, _, _ => by cases h
theorem mkSt_size {P : Program} {M : Md → Nat → Prop} {h : List (Nat × Tree)} {g : Operand → AV} {ev : Operand → Value} (hg : ∀ x, AVok M w h rt fp (g x) (ev x)) {parts : List (Nat × Operand)} :
  ∀ {u : Ty} {n : Nat} {fs : List Field} {off : Nat} {zs : List Value} {t : Tree}, FldF P u fs off zs → mkSt g parts u n = some t →
    ∀ m s τ, fldSteps u m = some (s, τ) → ∀ x, pk parts (n + m) = some x → (ev x).cells.size = τ.size
 | .pr a b, n, f :: r, off, zs, t, hF, hm, m, s, τ, hs, x, hp => by
    simp only [mkSt] at hm
    split at hm
    case h_2 => cases hm
    rename_i x0 y0 hx hy
    obtain ⟨h1, h2, h3, ⟨i, z, q1, q2, q3⟩, h5⟩ := hF
    cases m with
    | zero =>
      simp only [fldSteps, Option.some.injEq, Prod.mk.injEq] at hs
      obtain ⟨_, rfl⟩ := hs
      rw [Nat.add_zero] at hp
      rw [hp] at hx
      have hgp := hg x
      simp only at hx
      split at hx
      ·rename_i τ y' e
       cases hb : sameLay a τ with
       | false => rw [hb] at hx; cases hx
       | true =>
         rw [e] at hgp
         generalize hv : ev x = v at hgp
         cases hgp with | val rr =>
         rw [regV_cells (h2.lay hb) rr.len rr.one]
         have := rr.len
         have := sameLay.size hb
         simp; omega
      ·rename_i v e
       split at hx
       ·rename_i y' hy'
        rw [e] at hgp
        generalize hv : ev x = v' at hgp
        cases hgp
        have := (cvC_rep (M := M) (w := w) hy').len
        simpa using this
       ·cases hx
      ·cases hx
    | succ m =>
      simp only [fldSteps] at hs
      split at hs
      ·rename_i q hq
       simp only [Option.some.injEq, Prod.mk.injEq] at hs
       obtain ⟨_, rfl⟩ := hs
       exact mkSt_size hg (u := b) (n := n + 1) h5 hy m q.1 q.2 hq x (by rwa [show n + 1 + m = n + (m + 1) by omega])
      ·cases hs
 | .pr _ _, _, [], _, _, _, h, _, _, _, _, _, _, _ => h.elim
 | .nil, _, _, _, _, _, _, _, _, _, _, hs, _, _ => by cases hs
 | .int _, _, _, _, _, _, h, _, _, _, _, _, _, _ => by cases h
 | .bool, _, _, _, _, _, h, _, _, _, _, _, _, _ => by cases h
 | .str, _, _, _, _, _, h, _, _, _, _, _, _, _ => by cases h
 | .slc _ _, _, _, _, _, _, h, _, _, _, _, _, _, _ => by cases h
 | .osl _, _, _, _, _, _, h, _, _, _, _, _, _, _ => by cases h
 | .ptr _ _, _, _, _, _, _, h, _, _, _, _, _, _, _ => by cases h
 | .optr _, _, _, _, _, _, h, _, _, _, _, _, _, _ => by cases h
 | .st _, _, _, _, _, _, h, _, _, _, _, _, _, _ => by cases h
 | .blk, _, _, _, _, _, h, _, _, _, _, _, _, _ => by cases h
theorem run_places {P : Program} (w : World) : ∀ (u : Ty) (fs : List Field) (off : Nat) (zs : List Value), FldF P u fs off zs →
  (fs.mapM fun f => do Pure.pure (f.offset, ← sizeOf f.type) : Sem (List (Nat × Nat))).run P w = .ok ((List.range (nFlds u)).map fun n => (off + fldOff u n, match fldSteps u n with | some q => q.2.size | none => 0)) w
 | .pr a b, f :: r, off, zs, h => by
    have ih := run_places w b r (off + a.size) (zs.drop a.size) h.2.2.2.2
    simp only [List.mapM_cons, Sem.run_bind, h.2.1.sizeOf, Result.andThen_ok, Sem.run_pure, ih]
    simp only [nFlds, List.range_succ_eq_map, List.map_cons, List.map_map, h.1, fldOff, Nat.add_zero, fldSteps]
    congr 2
    apply List.map_congr_left
    intro n _
    simp only [Function.comp, fldOff, fldSteps]
    rw [Nat.add_assoc]
    cases fldSteps b n <;> rfl
 | .nil, [], _, _, _ => rfl
 | .pr _ _, [], _, _, h => h.elim
 | .nil, _ :: _, _, _, h => h.elim
 | .int _, _, _, _, h => by cases h
 | .bool, _, _, _, h => by cases h
 | .str, _, _, _, h => by cases h
 | .slc _ _, _, _, _, h => by cases h
 | .osl _, _, _, _, h => by cases h
 | .ptr _ _, _, _, _, h => by cases h
 | .optr _, _, _, _, h => by cases h
 | .st _, _, _, _, h => by cases h
 | .blk, _, _, _, h => by cases h
theorem bldF_sound (hR : RelAt C st a.tmps w I rt fp) {T : TypeId} {parts : Array (Nat × Operand)} (ho : o.op = .build T parts) (h : (bldF E.tt (opA st.g) T parts.toList).K Q) : Yields E C st a w I rt fp o Q := by
 unfold bldF at h
 split at h
 ·exact h.elim
 rename_i u hT
 cases hb : (incr parts.toList 0 && parts.toList.all (fun q => Nat.blt q.1 (nFlds u))) with
 | false => rw [hb] at h; exact h.elim
 | true =>
   rw [hb] at h
   simp only [Bool.and_eq_true, List.all_eq_true] at hb
   obtain ⟨b1, b2⟩ := hb
   simp only [cond_true] at h
   split at h
   case h_2 => exact h.elim
   rename_i t ht
   obtain ⟨i, fs, zs, h1, h2, h4, h5, h6, h7⟩ : ∃ i fs zs, E.P.info? T = some i ∧ i.size = u.size ∧ i.zero = some (.agg zs) ∧ E.P.underlying T = some (.struct fs) ∧ FldF E.P u fs.toList 0 zs.toList ∧ zs.size = u.size := by
    unfold isStT at hT
    split at hT
    ·rename_i u' hl
     cases hT
     obtain ⟨_, i, fs, zs, q1, q2, _, q4, q5, q6, q7⟩ := E.ok T _ hl
     exact ⟨i, fs, zs, q1, q2, q4, q5, q6, q7⟩
    ·cases hT
   have hsz := mkSt_size (fun x => hR.opA x) h6 ht
   have hpl := run_places (P := E.P) w u fs.toList 0 zs.toList h6
   simp only [Nat.zero_add] at hpl hsz
   generalize hpls : ((List.range (nFlds u)).map fun n => (fldOff u n, match fldSteps u n with | some q => q.2.size | none => 0)) = pls at hpl
   have hplace : ∀ n s τ, fldSteps u n = some (s, τ) → n < nFlds u → pls.toArray[n]? = some (fldOff u n, τ.size) := by
    intro n s τ hs hn
    rw [← hpls]
    simp [hn, hs]
   obtain ⟨r, r1, r2, r3, r4⟩ := fill_ok (fun i => pls.toArray[i]?) (parts.toList.map fun q => (q.1, a.eval q.2)) zs (by
    intro q hq
    obtain ⟨p, hp, rfl⟩ := List.mem_map.1 hq
    have hlt : p.1 < nFlds u := Nat.le_of_ble_eq_true (b2 p hp)
    obtain ⟨s, τ, hs⟩ := nFlds_lt h6 p.1 hlt
    refine ⟨_, _, hplace _ _ _ hs hlt, hsz _ _ _ hs p.2 ?_, by rw [h7]; exact fldSteps_le hs⟩
    exact incr_lk b1 hp) (by
    rw [List.pairwise_map]
    refine (incr_pw b1).imp_of_mem ?_
    intro q q' hq hq' hlt o1 s1 o2 s2 e1 e2
    have l1 : q.1 < nFlds u := Nat.le_of_ble_eq_true (b2 q hq)
    have l2 : q'.1 < nFlds u := Nat.le_of_ble_eq_true (b2 q' hq')
    obtain ⟨sa, ta, ha⟩ := nFlds_lt h6 q.1 l1
    obtain ⟨sb, tb, hb⟩ := nFlds_lt h6 q'.1 l2
    rw [hplace _ _ _ ha l1] at e1
    rw [hplace _ _ _ hb l2] at e2
    cases e1; cases e2
    exact .inl (fldOff_mono ha hb hlt))
   have hrl : r.toList.length = u.size := by simp [r2, h7]
   obtain ⟨g1, g2⟩ := mkSt_rep (w := w) (fun x => hR.opA x) (parts := parts.toList) (cells := r.toList) (u := u) (n := 0) (off := 0) h6 ht (by omega) (by
    intro m s τ hs
    have hm : m < nFlds u := fldSteps_lt hs
    simp only [Nat.zero_add]
    have hle := fldSteps_le hs
    refine ⟨fun x hx => ?_, fun hx => ?_⟩
    ·have hmem := lk_mem hx
     have hz := hsz m s τ hs x hx
     refine ⟨hz, ?_⟩
     apply List.ext_getElem?
     intro j
     rcases Nat.lt_or_ge j τ.size with hj | hj
     ·obtain ⟨v, hv⟩ : ∃ v, (a.eval x).cells[j]? = some v := ⟨_, Array.getElem?_eq_getElem (by omega)⟩
      have := r4 (m, a.eval x) (List.mem_map.2 ⟨(m, x), hmem, rfl⟩) _ _ (hplace _ _ _ hs hm) j v hv
      rw [List.getElem?_take_of_lt hj, List.getElem?_drop]
      simp only [Array.getElem?_toList]
      rw [this, hv]
     ·rw [List.getElem?_eq_none (by simp; omega), List.getElem?_eq_none (by simp; omega)]
    ·apply List.ext_getElem?
     intro j
     rcases Nat.lt_or_ge j τ.size with hj | hj
     ·rw [List.getElem?_take_of_lt hj, List.getElem?_take_of_lt hj, List.getElem?_drop, List.getElem?_drop]
      simp only [Array.getElem?_toList]
      refine r3 _ ?_
      intro q hq o1 s1 e1
      obtain ⟨p, hp, rfl⟩ := List.mem_map.1 hq
      have hne := lk_none hx p hp
      have l1 : p.1 < nFlds u := Nat.le_of_ble_eq_true (b2 p hp)
      obtain ⟨sa, ta, ha⟩ := nFlds_lt h6 p.1 l1
      rw [hplace _ _ _ ha l1] at e1
      cases e1
      rcases Nat.lt_or_gt_of_ne hne with hlt | hgt
      ·have := fldOff_mono ha hs hlt; omega
      ·have := fldOff_mono hs ha hgt; omega
     ·rw [List.getElem?_eq_none (by simp; omega), List.getElem?_eq_none (by simp; omega)])
   rw [List.drop_zero] at g1
   refine .pure (v := .agg r) ?_ (.val (τ := .st t.1) (cs := r.toList) g1) h
   have hpm : (Array.map (fun x => (x.fst, a.eval x.snd)) parts).toList = parts.toList.map fun q => (q.1, a.eval q.2) := by simp
   have hpl' : (fs.mapM fun f => do Pure.pure (f.offset, ← sizeOf f.type) : Sem (Array (Nat × Nat))).run E.P w = .ok pls.toArray w := by
    rw [Array.mapM_eq_mapM_toList, Sem.run_map, hpl]; rfl
   have hz : (zeroValue T).run E.P w = .ok (.agg zs) w := by simp [zeroValue, typeInfo, h1, h4]
   simp only [execOp, ho, Instr.build, Sem.run_bind, hz, run_underlying h5, Result.andThen_ok, hpl', hpm, Value.cells, r1]
   rfl
end
end Go.Fw
end
section
namespace Go.Fw
def mGet {α : Type} : List (Int × α) → Int → Option α
 | [], _ => none
 | (a, v) :: r, k => if a = k then some v else mGet r k
def mPut {α : Type} : List (Int × α) → Int → α → List (Int × α)
 | [], k, v => [(k, v)]
 | (a, u) :: r, k, v => if k < a then (k, v) :: (a, u) :: r else if k = a then (k, v) :: r else (a, u) :: mPut r k v
def mDel {α : Type} (l : List (Int × α)) (k : Int) : List (Int × α) := l.filter fun q => decide (q.1 ≠ k)
def mLk {α : Type} (m : Option (List (Int × α) × Nat)) (k : Int) : Option α := m.bind fun q => mGet q.1 k
def mLn {α : Type} (m : Option (List (Int × α) × Nat)) : Int := match m with | some q => (q.1.length : Int) | none => 0
def mKs {α : Type} (m : Option (List (Int × α) × Nat)) : List Int := match m with | some q => q.1.map (·.1) | none => []
section
variable {α : Type}
theorem mGet_some : ∀ {l : List (Int × α)} {k : Int} {v : α}, mGet l k = some v → (k, v) ∈ l
 | [], _, _, h => by cases h
 | (a, u) :: r, k, v, h => by
     simp only [mGet] at h
     split at h
     ·rename_i e; cases h; subst e; exact List.mem_cons_self ..
     ·exact List.mem_cons_of_mem _ (mGet_some h)
theorem mGet_none : ∀ {l : List (Int × α)} {k : Int}, mGet l k = none → ∀ v, (k, v) ∉ l
 | [], _, _, _ => by simp
 | (a, u) :: r, k, h, v => by
     simp only [mGet] at h
     split at h
     ·cases h
     ·rename_i e
      intro hm
      rcases List.mem_cons.1 hm with h1 | h1
      ·cases h1; exact e rfl
      ·exact mGet_none h v h1
theorem sorted_nd {l : List (Int × α)} (h : l.Pairwise (fun a b => a.1 < b.1)) : (l.map (·.1)).Nodup := by
 rw [List.Nodup, List.pairwise_map]
 exact h.imp (fun h e => by omega)
theorem mGet_iff {l : List (Int × α)} (h : (l.map (·.1)).Nodup) {k : Int} {v : α} : mGet l k = some v ↔ (k, v) ∈ l := by
 constructor
 ·exact mGet_some
 ·intro hm
  induction l with
  | nil => cases hm
  | cons q r ih =>
    obtain ⟨a, u⟩ := q
    simp only [List.map_cons, List.nodup_cons] at h
    simp only [mGet]
    rcases List.mem_cons.1 hm with h1 | h1
    ·cases h1; rw [if_pos rfl]
    ·rw [if_neg, ih h.2 h1]
     rintro rfl
     exact h.1 (List.mem_map.2 ⟨_, h1, rfl⟩)
theorem mPut_mem : ∀ {l : List (Int × α)} {k : Int} {v : α} {q : Int × α}, q ∈ mPut l k v → q = (k, v) ∨ q ∈ l
 | [], k, v, q, h => by simpa [mPut] using h
 | (a, u) :: r, k, v, q, h => by
     simp only [mPut] at h
     split at h
     ·rcases List.mem_cons.1 h with h | h
      ·exact .inl h
      ·exact .inr h
     ·split at h
      ·rcases List.mem_cons.1 h with h | h
       ·exact .inl h
       ·exact .inr (List.mem_cons_of_mem _ h)
      ·rcases List.mem_cons.1 h with h | h
       ·exact .inr (h ▸ List.mem_cons_self ..)
       ·exact (mPut_mem h).imp id (List.mem_cons_of_mem _)
theorem mPut_sorted : ∀ {l : List (Int × α)} {k : Int} {v : α}, l.Pairwise (fun a b => a.1 < b.1) → (mPut l k v).Pairwise (fun a b => a.1 < b.1)
 | [], k, v, _ => by simp [mPut]
 | (a, u) :: r, k, v, h => by
     rw [List.pairwise_cons] at h
     simp only [mPut]
     split
     ·rename_i hk
      rw [List.pairwise_cons, List.pairwise_cons]
      refine ⟨fun q hq => ?_, h.1, h.2⟩
      rcases List.mem_cons.1 hq with rfl | hq
      ·exact hk
      ·have := h.1 q hq; simp only at this ⊢; omega
     ·rename_i hk
      split
      ·rename_i e; subst e
       rw [List.pairwise_cons]
       exact ⟨h.1, h.2⟩
      ·rename_i e
       rw [List.pairwise_cons]
       refine ⟨fun q hq => ?_, mPut_sorted h.2⟩
       rcases mPut_mem hq with rfl | hq
       ·simp only; omega
       ·exact h.1 q hq
theorem mDel_sorted {l : List (Int × α)} {k : Int} (h : l.Pairwise (fun a b => a.1 < b.1)) : (mDel l k).Pairwise (fun a b => a.1 < b.1) := h.filter _
theorem mPut_perm : ∀ {l : List (Int × α)} {k : Int} {v : α}, l.Pairwise (fun a b => a.1 < b.1) → (mPut l k v).Perm ((k, v) :: mDel l k)
 | [], k, v, _ => by simp [mPut, mDel]
 | (a, u) :: r, k, v, h => by
     rw [List.pairwise_cons] at h
     simp only [mPut]
     split
     ·rename_i hk
      have : mDel ((a, u) :: r) k = (a, u) :: r := by
       unfold mDel
       rw [List.filter_eq_self]
       intro q hq
       rcases List.mem_cons.1 hq with rfl | hq
       ·simp; omega
       ·have := h.1 q hq; simp only at this; simp; omega
      rw [this]
     ·rename_i hk
      split
      ·rename_i e; subst e
       have : mDel ((k, u) :: r) k = r := by
        unfold mDel
        rw [List.filter_cons, if_neg (by simp), List.filter_eq_self]
        intro q hq
        have := h.1 q hq; simp only at this; simp; omega
       rw [this]
      ·rename_i e
       have : mDel ((a, u) :: r) k = (a, u) :: mDel r k := by
        unfold mDel
        rw [List.filter_cons, if_pos (by simp; omega)]
       rw [this]
       exact ((mPut_perm h.2).cons _).trans (.swap _ _ _)
end
section
variable {P : Program} {w : World} {b : Nat} {es : Array MapEntry} {c : Nat}
theorem mapOf_iff : mapOf w b = some (es, c) ↔ w.heap[b]? = some (.map es c) := by
 unfold mapOf
 constructor
 ·intro h
  split at h
  ·rename_i es' c' hh; cases h; exact hh
  ·cases h
 ·intro h; rw [h]
theorem run_setObj {es' : Array MapEntry} {c' : Nat} (h : w.heap[b]? = some (.map es c)) : (setObj b (.map es' c')).run P w = .ok () { w with heap := w.heap.setIfInBounds b (.map es' c') } := by simp [setObj, Sem.run, h]
theorem run_getObj_map (h : w.heap[b]? = some (.map es c)) : (getObj b).run P w = .ok (.map es c) w := by simp [getObj, Sem.run, h]
theorem findNow_none {kd : IntKind} (k : Int) : ∀ (es : List MapEntry) (ks : List Int) (n : Nat), es.map (·.key) = ks.map (Value.int .i64) → k ∉ ks → Instr.findNow (.int kd) (.int .i64 k) es n = some none
 | [], _, _, _, _ => rfl
 | e :: es, [], _, h, _ => by cases h
 | e :: es, a :: ks, n, h, hk => by
     simp only [List.map_cons, List.cons.injEq] at h
     have hne : (k == a) = false := by simp; rintro rfl; exact hk (by simp)
     simp only [Instr.findNow, h.1, Instr.sameNow, if_true, hne]
     exact findNow_none k es ks (n + 1) h.2 (fun hh => hk (List.mem_cons_of_mem _ hh))
theorem findNow_some {kd : IntKind} (k : Int) : ∀ (es : List MapEntry) (ks : List Int) (n : Nat), es.map (·.key) = ks.map (Value.int .i64) → k ∈ ks →
  ∃ i e, ks[i]? = some k ∧ es[i]? = some e ∧ Instr.findNow (.int kd) (.int .i64 k) es n = some (some (n + i, e.val))
 | [], [], _, _, h => by cases h
 | [], _ :: _, _, h, _ => by cases h
 | e :: es, [], _, h, _ => by cases h
 | e :: es, a :: ks, n, h, hk => by
     simp only [List.map_cons, List.cons.injEq] at h
     by_cases e0 : k = a
     ·subst e0
      refine ⟨0, e, rfl, rfl, ?_⟩
      simp only [Instr.findNow, h.1, Instr.sameNow, if_true, beq_self_eq_true]
      rfl
     ·have hne : (k == a) = false := by simpa using e0
      obtain ⟨i, e', h1, h2, h3⟩ := findNow_some k es ks (n + 1) h.2 ((List.mem_cons.1 hk).resolve_left e0)
      refine ⟨i + 1, e', by simpa using h1, by simpa using h2, ?_⟩
      simp only [Instr.findNow, h.1, Instr.sameNow, if_true, hne]
      rw [h3]
      simp only [Option.some.injEq, Prod.mk.injEq, and_true]
      omega
structure MapR (M : Md → Nat → Prop) (w : World) (t : Ty) (b : Nat) (l : List (Int × t.den)) (c : Nat) (es : Array MapEntry) (L : List (Int × Nat × t.den)) : Prop where
 mc : MapC L l c
 h : w.heap[b]? = some (.map es c)
 n : es.size = L.length
 e : ∀ (i : Nat) (q : Int × Nat × t.den), L[i]? = some q → ∃ ds : List Value, ds.length = t.size ∧ es[i]? = some (MapEntry.mk (.int .i64 q.1) (regV t ds) q.2.1) ∧ Rep M w t ds q.2.2 []
variable {M : Md → Nat → Prop} {t : Ty} {l : List (Int × t.den)} {L : List (Int × Nat × t.den)}
theorem MapR.keys (h : MapR M w t b l c es L) : es.toList.map (·.key) = (L.map (·.1)).map (Value.int .i64) := by
 apply List.ext_getElem?
 intro i
 simp only [List.getElem?_map, Array.getElem?_toList]
 rcases Nat.lt_or_ge i L.length with hi | hi
 ·obtain ⟨ds, _, h2, _⟩ := h.e i L[i] (List.getElem?_eq_getElem hi)
  rw [h2, List.getElem?_eq_getElem hi]; rfl
 ·rw [List.getElem?_eq_none hi, Array.getElem?_eq_none (by rw [h.n]; exact hi)]; rfl
theorem MapC.keys {α : Type} {L : List (Int × Nat × α)} {l : List (Int × α)} {c : Nat} (h : MapC L l c) : (L.map (·.1)).Perm (l.map (·.1)) := by
 have := h.2.1.map (·.1)
 rwa [List.map_map] at this
theorem MapC.nd {α : Type} {L : List (Int × Nat × α)} {l : List (Int × α)} {c : Nat} (h : MapC L l c) : (L.map (·.1)).Nodup := h.keys.nodup_iff.2 (sorted_nd h.1)
theorem MapC.mem {α : Type} {L : List (Int × Nat × α)} {l : List (Int × α)} {c : Nat} (h : MapC L l c) {q : Int × Nat × α} (hq : q ∈ L) : mGet l q.1 = some q.2.2 :=
 (mGet_iff (sorted_nd h.1)).2 (h.2.1.mem_iff.1 (List.mem_map.2 ⟨q, hq, rfl⟩))
theorem MapC.len {α : Type} {L : List (Int × Nat × α)} {l : List (Int × α)} {c : Nat} (h : MapC L l c) : L.length = l.length := by
 have := h.2.1.length_eq
 simpa using this
theorem run_findKey {P : Program} {w : World} {K : TypeId} {kd : IntKind} (hK : P.underlying K = some (.int kd)) {k : Int} {es : List MapEntry} {r : Option (Nat × Value)} (h : Instr.findNow (.int kd) (.int .i64 k) es 0 = some r) : (Instr.findKey K (.int .i64 k) es).run P w = .ok r w := by
 simp only [Instr.findKey, Sem.run_bind, run_underlying hK, Result.andThen_ok, h]
 rfl
theorem run_checkKey {P : Program} {w : World} {K : TypeId} {kd : IntKind} (hK : P.underlying K = some (.int kd)) (e : Bool) (n : Nat) (k : Int) : (Instr.checkKey e (n + 1) K (.int .i64 k)).run P w = .ok () w := by
 simp [Instr.checkKey, Sem.run_bind, run_underlying hK]
theorem MapR.find (h : MapR M w t b l c es L) {K : TypeId} {kd : IntKind} (hK : P.underlying K = some (.int kd)) (k : Int) :
  (mGet l k = none ∧ (∀ q ∈ L, q.1 ≠ k) ∧ ∀ w', (Instr.findKey K (.int .i64 k) es.toList).run P w' = .ok none w') ∨
  ∃ i s y ds, mGet l k = some y ∧ L[i]? = some (k, s, y) ∧ ds.length = t.size ∧ es[i]? = some ⟨.int .i64 k, regV t ds, s⟩ ∧ Rep M w t ds y [] ∧ ∀ w', (Instr.findKey K (.int .i64 k) es.toList).run P w' = .ok (some (i, regV t ds)) w' := by
 by_cases hk : k ∈ L.map (·.1)
 ·obtain ⟨i, e, h1, h2, h3⟩ := findNow_some (kd := kd) k es.toList _ 0 h.keys hk
  rw [List.getElem?_map] at h1
  obtain ⟨⟨k', s, y⟩, h4, rfl⟩ := Option.map_eq_some_iff.1 h1
  obtain ⟨ds, d1, d2, d3⟩ := h.e i _ h4
  rw [Array.getElem?_toList, d2] at h2
  cases h2
  refine .inr ⟨i, s, y, ds, h.mc.mem (List.mem_of_getElem? h4), h4, d1, d2, d3, fun w' => run_findKey hK ?_⟩
  rw [h3, Nat.zero_add]
 ·refine .inl ⟨?_, fun q hq e => hk (List.mem_map.2 ⟨q, hq, e⟩), fun w' => run_findKey hK (findNow_none k _ _ 0 h.keys hk)⟩
  cases hg : mGet l k with
  | none => rfl
  | some y => exact absurd (h.mc.keys.mem_iff.2 (List.mem_map.2 ⟨_, mGet_some hg, rfl⟩)) hk
theorem MapR.empty (M : Md → Nat → Prop) (t : Ty) (h : w.heap[b]? = some (.map #[] 0)) : MapR M w t b [] 0 #[] [] :=
 ⟨⟨.nil, .refl _, .nil, by simp⟩, h, rfl, by simp⟩
def newL {α : Type} (L : List (Int × Nat × α)) (k : Int) (y : α) (c : Nat) : List (Int × Nat × α) × Nat :=
 if k ∈ L.map (·.1) then (L.map fun q => if q.1 = k then (k, q.2.1, y) else q, c) else (L ++ [(k, c, y)], c + 1)
theorem perm_put {α : Type} {k : Int} {y : α} : ∀ {A : List (Int × α)}, (A.map (·.1)).Nodup → k ∈ A.map (·.1) → (A.map fun q => if q.1 = k then (k, y) else q).Perm ((k, y) :: mDel A k)
 | [], _, h => by cases h
 | (a, u) :: A, h, hk => by
     simp only [List.map_cons, List.nodup_cons] at h
     simp only [List.map_cons]
     by_cases e : a = k
     ·subst e
      rw [if_pos rfl]
      have h1 : (A.map fun q => if q.1 = a then (a, y) else q) = A := by
       conv => rhs; rw [← List.map_id A]
       refine List.map_congr_left fun q hq => ?_
       rw [if_neg]; rfl
       rintro rfl; exact h.1 (List.mem_map.2 ⟨q, hq, rfl⟩)
      have h2 : mDel ((a, u) :: A) a = A := by
       unfold mDel
       rw [List.filter_cons, if_neg (by simp), List.filter_eq_self]
       intro q hq
       simp only [decide_eq_true_eq]
       rintro rfl; exact h.1 (List.mem_map.2 ⟨q, hq, rfl⟩)
      rw [h1, h2]
     ·rw [if_neg e]
      have h2 : mDel ((a, u) :: A) k = (a, u) :: mDel A k := by
       unfold mDel
       rw [List.filter_cons, if_pos (by simpa using e)]
      rw [h2]
      refine ((perm_put h.2 ?_).cons _).trans (.swap _ _ _)
      simp only [List.map_cons, List.mem_cons] at hk
      exact hk.resolve_left (fun e' => e e'.symm)
theorem MapC.put {α : Type} {L : List (Int × Nat × α)} {l : List (Int × α)} {c : Nat} (h : MapC L l c) (k : Int) (y : α) : MapC (newL L k y c).1 (mPut l k y) (bif (mGet l k).isSome then c else c + 1) ∧ (newL L k y c).2 = (bif (mGet l k).isSome then c else c + 1) := by
 have hg : (mGet l k).isSome = decide (k ∈ L.map (·.1)) := by
  by_cases hk : k ∈ L.map (·.1)
  ·obtain ⟨q, hq, rfl⟩ := List.mem_map.1 hk
   rw [h.mem hq, decide_eq_true hk]; rfl
  ·rw [decide_eq_false hk]
   cases hg : mGet l k with
   | none => rfl
   | some v => exact absurd (h.keys.mem_iff.2 (List.mem_map.2 ⟨_, mGet_some hg, rfl⟩)) hk
 rw [hg]
 unfold newL
 have hdp : ((L.map fun q => (q.1, q.2.2)).filter fun q => decide (q.1 ≠ k)).Perm (mDel l k) := h.2.1.filter _
 by_cases hk : k ∈ L.map (·.1)
 ·rw [if_pos hk, decide_eq_true hk]
  refine ⟨⟨mPut_sorted h.1, ?_, ?_, ?_⟩, rfl⟩
  ·have e1 : ((L.map fun q => if q.1 = k then (k, q.2.1, y) else q).map fun q => (q.1, q.2.2)) = (L.map fun q => (q.1, q.2.2)).map fun q => if q.1 = k then (k, y) else q := by
    simp only [List.map_map]
    refine List.map_congr_left fun q _ => ?_
    simp only [Function.comp]
    by_cases e : q.1 = k
    ·rw [if_pos e, if_pos e]
    ·rw [if_neg e, if_neg e]
   show ((L.map fun q => if q.1 = k then (k, q.2.1, y) else q).map fun q => (q.1, q.2.2)).Perm _
   rw [e1]
   refine (perm_put ?_ ?_).trans ((hdp.cons _).trans (mPut_perm h.1).symm)
   ·rw [List.map_map]; exact h.nd
   ·rw [List.map_map]; exact hk
  ·have e1 : ((L.map fun q => if q.1 = k then (k, q.2.1, y) else q).map fun q => q.2.1) = L.map fun q => q.2.1 := by
    rw [List.map_map]
    refine List.map_congr_left fun q _ => ?_
    simp only [Function.comp]
    split <;> rfl
   show ((L.map fun q => if q.1 = k then (k, q.2.1, y) else q).map fun q => q.2.1).Nodup
   rw [e1]; exact h.2.2.1
  ·intro q hq
   obtain ⟨q0, hq0, rfl⟩ := List.mem_map.1 hq
   have := h.2.2.2 q0 hq0
   show _ < c
   split <;> exact this
 ·rw [if_neg hk, decide_eq_false hk]
  refine ⟨⟨mPut_sorted h.1, ?_, ?_, ?_⟩, rfl⟩
  ·have e2 : mDel l k = l := by
    unfold mDel
    rw [List.filter_eq_self]
    intro q hq
    simp only [decide_eq_true_eq]
    rintro rfl
    exact hk (h.keys.mem_iff.2 (List.mem_map.2 ⟨q, hq, rfl⟩))
   have := mPut_perm (k := k) (v := y) h.1
   rw [e2] at this
   refine List.Perm.trans ?_ this.symm
   show ((L ++ [(k, c, y)]).map fun q => (q.1, q.2.2)).Perm _
   rw [List.map_append]
   exact (List.perm_append_comm).trans ((h.2.1).cons _)
  ·show ((L ++ [(k, c, y)]).map fun q => q.2.1).Nodup
   rw [List.map_append, List.nodup_append]
   refine ⟨h.2.2.1, by simp, fun a ha b hb e => ?_⟩
   obtain ⟨q, hq, rfl⟩ := List.mem_map.1 ha
   have := h.2.2.2 q hq
   simp at hb
   omega
  ·intro q hq
   rcases List.mem_append.1 hq with hq | hq
   ·have := h.2.2.2 q hq
    show _ < c + 1
    omega
   ·simp at hq; subst hq; exact Nat.lt_succ_self _
theorem filter_ne {α : Type} {k : Int} : ∀ {A : List α} (f : α → Int) {i : Nat} {a : α}, (A.map f).Nodup → A[i]? = some a → f a = k → A.eraseIdx i = A.filter fun q => decide (f q ≠ k)
 | [], f, i, a, _, h, _ => by simp at h
 | x :: A, f, 0, a, hn, h, e => by
     simp only [List.getElem?_cons_zero, Option.some.injEq] at h
     subst h
     simp only [List.map_cons, List.nodup_cons] at hn
     rw [List.eraseIdx_cons_zero, List.filter_cons, if_neg (by simpa using e), List.filter_eq_self.2]
     intro q hq
     simp only [decide_eq_true_eq]
     intro e2
     exact hn.1 (List.mem_map.2 ⟨q, hq, e2.trans e.symm⟩)
 | x :: A, f, i + 1, a, hn, h, e => by
     simp only [List.getElem?_cons_succ] at h
     simp only [List.map_cons, List.nodup_cons] at hn
     rw [List.eraseIdx_cons_succ, List.filter_cons, if_pos, filter_ne f hn.2 h e]
     simp only [decide_eq_true_eq]
     intro e2
     exact hn.1 (List.mem_map.2 ⟨a, List.mem_of_getElem? h, e.trans e2.symm⟩)
theorem MapC.del {α : Type} {L : List (Int × Nat × α)} {l : List (Int × α)} {c : Nat} (h : MapC L l c) (k : Int) : MapC (L.filter fun q => decide (q.1 ≠ k)) (mDel l k) c := by
 refine ⟨mDel_sorted h.1, ?_, ?_, fun q hq => h.2.2.2 q (List.mem_filter.1 hq).1⟩
 ·have := h.2.1.filter (fun q => decide (q.1 ≠ k))
  rw [List.filter_map] at this
  exact this
 ·exact h.2.2.1.sublist ((List.filter_sublist).map _)
theorem Rep.mpI (h : MapR M w t b l c es L) : Rep M w (.mp t) [.map (some b)] (some (l, c)) [b] := ⟨b, es, L, rfl, rfl, h.mc, mapOf_iff.2 h.h, h.n, h.e⟩
theorem Rep.mpE {cs : List Value} {f : List Nat} (h : Rep M w (.mp t) cs (some (l, c)) f) : ∃ b es L, cs = [.map (some b)] ∧ f = [b] ∧ MapR M w t b l c es L := by
 obtain ⟨b, es, L, h1, h2, h3, h4, h5, h6⟩ := h
 exact ⟨b, es, L, h1, h2, h3, mapOf_iff.1 h4, h5, h6⟩
theorem Rep.vmE {m : Md} {cs : List Value} {f : List Nat} (h : Rep M w (.vm m t) cs (some (l, c)) f) : ∃ b es L, cs = [.map (some b)] ∧ f = [] ∧ M m b ∧ MapR M w t b l c es L := by
 obtain ⟨b, es, L, h1, h2, h3, hb, h4, h5, h6⟩ := h
 exact ⟨b, es, L, h1, h2, hb, h3, mapOf_iff.1 h4, h5, h6⟩
def setM (w : World) (b : Nat) (es : Array MapEntry) (c : Nat) : World := { w with heap := w.heap.setIfInBounds b (.map es c) }
theorem setM_same {es' : Array MapEntry} {c' : Nat} (h : w.heap[b]? = some (.map es c)) : (setM w b es' c').heap[b]? = some (.map es' c') := by
 have := (Array.getElem?_eq_some_iff.1 h).1
 simp [setM, this]
theorem setM_ne {es' : Array MapEntry} {c' k : Nat} (hk : k ≠ b) : (setM w b es' c').heap[k]? = w.heap[k]? := by
 simp only [setM]
 rw [Array.getElem?_setIfInBounds_ne (fun e => hk e.symm)]
theorem setM_size {es' : Array MapEntry} {c' : Nat} : (setM w b es' c').heap.size = w.heap.size := by simp [setM]
theorem setM_cell {es' : Array MapEntry} {c' : Nat} (h : w.heap[b]? = some (.map es c)) (a : Addr) : (setM w b es' c').cell? a = w.cell? a := by
 by_cases e : a.block = b
 ·unfold World.cell?
  rw [e, setM_same h, h]
 ·exact World.cell?_of_block (setM_ne e)
theorem setM_frozen {es' : Array MapEntry} {c' : Nat} (h : w.heap[b]? = some (.map es c)) (a : Addr) : (setM w b es' c').frozen? a = w.frozen? a := by
 by_cases e : a.block = b
 ·unfold World.frozen?
  rw [e, setM_same h, h]
 ·exact World.frozen?_of_block (setM_ne e)
theorem setM_sm {es' : Array MapEntry} {c' k : Nat} (hk : k ≠ b) : Sm w (setM w b es' c') k := .of_heap (setM_ne hk)
theorem MapR.update (h : MapR M w t b l c es L) {T K D : TypeId} {kd : IntKind} (hT : P.underlying T = some (.map K D)) (hK : P.underlying K = some (.int kd)) (k : Int) {y : t.den} {ds : List Value} (hd : ds.length = t.size) (hy : Rep M w t ds y []) :
  ∃ es' L', (Instr.mapUpdate T (.map (some b)) (.int .i64 k) (regV t ds)).run P w = .ok () (setM w b es' (bif (mGet l k).isSome then c else c + 1)) ∧
    (∀ {M' : Md → Nat → Prop}, (∀ m k, M m k → M' m k ∧ k ≠ b) → MapR M' (setM w b es' (bif (mGet l k).isSome then c else c + 1)) t b (mPut l k y) (bif (mGet l k).isSome then c else c + 1) es' L') ∧
    Evo w (setM w b es' (bif (mGet l k).isSome then c else c + 1)) b := by
 have hmono : ∀ {M' : Md → Nat → Prop} {es' : Array MapEntry} {c' : Nat}, (∀ m k, M m k → M' m k ∧ k ≠ b) → ∀ {ds : List Value} {y : t.den}, Rep M w t ds y [] → Rep M' (setM w b es' c') t ds y [] :=
  fun hM _ _ hr => hr.mono (fun m k hk => ⟨(hM m k hk).1, setM_sm (hM m k hk).2⟩) (by simp)
 obtain ⟨hmc, hc2⟩ := h.mc.put k y
 rcases h.find (P := P) hK k with ⟨h1, h2, h3⟩ | ⟨i, s, y0, ds0, h1, h2, h3, h4, h5, h6⟩
 ·rw [h1] at hmc ⊢
  have hk : k ∉ L.map (·.1) := fun hh => by obtain ⟨q, hq, e⟩ := List.mem_map.1 hh; exact h2 q hq e
  simp only [Option.isSome_none, cond_false] at hmc ⊢
  have e1 : (newL L k y c).1 = L ++ [(k, c, y)] := by unfold newL; rw [if_neg hk]
  rw [e1] at hmc
  refine ⟨es.push ⟨.int .i64 k, regV t ds, c⟩, L ++ [(k, c, y)], ?_, fun hM => ⟨hmc, setM_same h.h, by simp [h.n], fun j q hj => ?_⟩, ?_⟩
  ·simp only [Instr.mapUpdate, Sem.run_bind, run_underlying hT, Result.andThen_ok, run_getObj_map h.h, run_checkKey hK, h3]
   exact run_setObj h.h
  ·rcases Nat.lt_or_ge j L.length with hl | hl
   ·rw [List.getElem?_append_left hl] at hj
    obtain ⟨ds', d1, d2, d3⟩ := h.e j q hj
    exact ⟨ds', d1, by rw [Array.getElem?_push, if_neg (by rw [h.n]; omega)]; exact d2, hmono hM d3⟩
   ·rw [List.getElem?_append_right hl] at hj
    have hj0 : j - L.length = 0 := by
     have := (List.getElem?_eq_some_iff.1 hj).1
     simp at this; omega
    rw [hj0] at hj
    simp only [List.getElem?_cons_zero, Option.some.injEq] at hj
    subst hj
    exact ⟨ds, hd, by rw [Array.getElem?_push, if_pos (by rw [h.n]; omega)], hmono hM hy⟩
  ·intro es0 c0 hm
   rw [mapOf_iff.2 h.h] at hm
   cases hm
   refine ⟨_, _, mapOf_iff.2 (setM_same h.h), Nat.le_succ _, fun j e he hb => ?_⟩
   rw [Array.getElem?_push] at he
   split at he
   ·cases he; exact absurd hb (Nat.lt_irrefl _)
   ·exact ⟨j, e, he, rfl, rfl⟩
 ·rw [h1] at hmc ⊢
  have hk : k ∈ L.map (·.1) := List.mem_map.2 ⟨_, List.mem_of_getElem? h2, rfl⟩
  simp only [Option.isSome_some, cond_true] at hmc ⊢
  have e1 : (newL L k y c).1 = L.map fun q => if q.1 = k then (k, q.2.1, y) else q := by unfold newL; rw [if_pos hk]
  rw [e1] at hmc
  have huniq : ∀ (j : Nat) (q : Int × Nat × t.den), L[j]? = some q → q.1 = k → j = i := fun j q hj e => by
   have hnd := h.mc.nd
   have hjl : j < (L.map (·.1)).length := by have := (List.getElem?_eq_some_iff.1 hj).1; simpa using this
   have := List.getElem?_inj hjl hnd (i := j) (j := i)
   apply this.1
   rw [List.getElem?_map, List.getElem?_map, hj, h2]
   simp [e]
  refine ⟨es.modify i fun e => { e with key := .int .i64 k, val := regV t ds }, L.map fun q => if q.1 = k then (k, q.2.1, y) else q, ?_, fun hM => ⟨hmc, setM_same h.h, by simp [h.n], fun j q hj => ?_⟩, ?_⟩
  ·have hks : (Instr.keyThatStays (((es[i]?).map (·.key)).getD (.int .i64 k)) (.int .i64 k)).run P w = .ok (.int .i64 k) w := by
    rw [h4]
    simp [Instr.keyThatStays, Instr.sameBits]
   simp only [Instr.mapUpdate, Sem.run_bind, run_underlying hT, Result.andThen_ok, run_getObj_map h.h, run_checkKey hK, h6, hks]
   exact run_setObj h.h
  ·rw [List.getElem?_map] at hj
   obtain ⟨q0, hq0, rfl⟩ := Option.map_eq_some_iff.1 hj
   by_cases e : q0.1 = k
   ·obtain rfl := huniq j q0 hq0 e
    rw [h2] at hq0
    cases hq0
    simp only [if_true]
    exact ⟨ds, hd, by rw [Array.getElem?_modify, if_pos rfl, h4]; rfl, hmono hM hy⟩
   ·rw [if_neg e]
    obtain ⟨ds', d1, d2, d3⟩ := h.e j q0 hq0
    refine ⟨ds', d1, ?_, hmono hM d3⟩
    rw [Array.getElem?_modify, if_neg, d2]
    rintro rfl
    rw [h2] at hq0
    cases hq0
    exact e rfl
  ·intro es0 c0 hm
   rw [mapOf_iff.2 h.h] at hm
   cases hm
   refine ⟨_, _, mapOf_iff.2 (setM_same h.h), Nat.le_refl _, fun j e he hb => ?_⟩
   rw [Array.getElem?_modify] at he
   split at he
   ·rename_i e0; subst e0
    rw [h4] at he
    simp only [Option.map_some, Option.some.injEq] at he
    subst he
    exact ⟨i, _, h4, rfl, rfl⟩
   ·exact ⟨j, e, he, rfl, rfl⟩
theorem MapR.delete (h : MapR M w t b l c es L) {T K D : TypeId} {kd : IntKind} (hT : P.underlying T = some (.map K D)) (hK : P.underlying K = some (.int kd)) (k : Int) (ty : TypeId) (T2 : TypeId) :
  ∃ es' L', (Builtin.delete_ #[T, T2] ty #[.map (some b), .int .i64 k]).run P w = .ok (.tuple #[]) (setM w b es' c) ∧
    (∀ {M' : Md → Nat → Prop}, (∀ m k, M m k → M' m k ∧ k ≠ b) → MapR M' (setM w b es' c) t b (mDel l k) c es' L') ∧ Evo w (setM w b es' c) b := by
 have hmono : ∀ {M' : Md → Nat → Prop} {es' : Array MapEntry} {c' : Nat}, (∀ m k, M m k → M' m k ∧ k ≠ b) → ∀ {ds : List Value} {y : t.den}, Rep M w t ds y [] → Rep M' (setM w b es' c') t ds y [] :=
  fun hM _ _ hr => hr.mono (fun m k hk => ⟨(hM m k hk).1, setM_sm (hM m k hk).2⟩) (by simp)
 rcases h.find (P := P) hK k with ⟨h1, h2, h3⟩ | ⟨i, s, y0, ds0, h1, h2, h3, h4, h5, h6⟩
 ·have e1 : mDel l k = l := by
   unfold mDel
   rw [List.filter_eq_self]
   intro q hq
   simp only [decide_eq_true_eq]
   rintro rfl
   exact mGet_none h1 q.2 hq
  refine ⟨es, L, ?_, fun hM => ⟨by rw [e1]; exact h.mc, setM_same h.h, h.n, fun j q hj => ?_⟩, ?_⟩
  ·simp only [Builtin.delete_, Sem.run_bind, run_underlying hT, Result.andThen_ok, run_getObj_map h.h, run_checkKey hK, h3, List.getElem?_toArray, List.getElem?_cons_zero, List.getElem?_cons_succ]
   rw [run_setObj h.h]
   rfl
  ·obtain ⟨ds', d1, d2, d3⟩ := h.e j q hj
   exact ⟨ds', d1, d2, hmono hM d3⟩
  ·intro es0 c0 hm
   rw [mapOf_iff.2 h.h] at hm
   cases hm
   exact ⟨_, _, mapOf_iff.2 (setM_same h.h), Nat.le_refl _, fun j e he _ => ⟨j, e, he, rfl, rfl⟩⟩
 ·have e2 : L.eraseIdx i = L.filter fun q => decide (q.1 ≠ k) := filter_ne (·.1) h.mc.nd h2 rfl
  refine ⟨es.eraseIdxIfInBounds i, L.eraseIdx i, ?_, fun hM => ⟨by rw [e2]; exact h.mc.del k, setM_same h.h, ?_, fun j q hj => ?_⟩, ?_⟩
  ·simp only [Builtin.delete_, Sem.run_bind, run_underlying hT, Result.andThen_ok, run_getObj_map h.h, run_checkKey hK, h6, List.getElem?_toArray, List.getElem?_cons_zero, List.getElem?_cons_succ]
   rw [run_setObj h.h]
   rfl
  ·have hi : i < es.size := (Array.getElem?_eq_some_iff.1 h4).1
   have hi2 : i < L.length := (List.getElem?_eq_some_iff.1 h2).1
   rw [Array.eraseIdxIfInBounds, dif_pos hi, Array.size_eraseIdx, List.length_eraseIdx, if_pos hi2, h.n]
  ·have hi : i < es.size := (Array.getElem?_eq_some_iff.1 h4).1
   rw [List.getElem?_eraseIdx] at hj
   rw [Array.eraseIdxIfInBounds, dif_pos hi]
   split at hj
   ·rename_i hlt
    obtain ⟨ds', d1, d2, d3⟩ := h.e j q hj
    exact ⟨ds', d1, by rw [Array.getElem?_eraseIdx, if_pos hlt]; exact d2, hmono hM d3⟩
   ·rename_i hlt
    obtain ⟨ds', d1, d2, d3⟩ := h.e (j + 1) q hj
    exact ⟨ds', d1, by rw [Array.getElem?_eraseIdx, if_neg hlt]; exact d2, hmono hM d3⟩
  ·intro es0 c0 hm
   rw [mapOf_iff.2 h.h] at hm
   cases hm
   refine ⟨_, _, mapOf_iff.2 (setM_same h.h), Nat.le_refl _, fun j e he _ => ?_⟩
   have hi : i < es.size := (Array.getElem?_eq_some_iff.1 h4).1
   rw [Array.eraseIdxIfInBounds, dif_pos hi, Array.getElem?_eraseIdx] at he
   split at he
   ·exact ⟨j, e, he, rfl, rfl⟩
   ·exact ⟨j + 1, e, he, rfl, rfl⟩
end
end Go.Fw
end
section
namespace Go.Fw
section
variable {E : Env} {C : Ctx} {st : St} {a : Act} {w : World} {I : Nat → Prop} {rt : Nat → List Value} {fp : Nat → List Nat} {o : Oper} {Q : AV → List (Nat × Tree) → Prop}
def isMapT (tt : List (TypeId × Ty)) (T : TypeId) : Option Ty := match lk tt T with | some (.mp t) => some t | some (.vm _ t) => some t | _ => none
theorem isMapT.ok {T : TypeId} {t : Ty} (h : isMapT E.tt T = some t) : ∃ K S, E.P.underlying T = some (.map K S) ∧ E.P.underlying K = some (.int .i64) ∧ TyF E.P t S := by
 unfold isMapT at h
 split at h
 ·rename_i u hl
  cases h
  obtain ⟨i, K, S, _, _, _, _, h5, h6, h7⟩ := E.ok T _ hl
  exact ⟨K, S, h5, h6, h7⟩
 ·rename_i m u hl
  cases h
  obtain ⟨i, K, S, _, _, _, _, h5, h6, h7⟩ := E.ok T _ hl
  exact ⟨K, S, h5, h6, h7⟩
 ·cases h
def mkmF (tt : List (TypeId × Ty)) (an : List (Nat × Ty)) (h : List (Nat × Tree)) (d : Nat) (T : TypeId) : Res :=
 match isMapT tt T, lk an d, lk h d with
 | some u, some (.mp t), none => bif sameLay u t then .tot (.ref d []) [(d, ⟨.mp t, some ([], 0)⟩)] else .bad
 | _, _, _ => .bad
theorem mkmF_sound (hR : RelAt C st a.tmps w I rt fp) {an : List (Nat × Ty)} {d : Nat} {T : TypeId} (ho : o.op = .makeMap T none) (h : (mkmF E.tt an st.h d T).K Q) : Yields E C st a w I rt fp o Q := by
 unfold mkmF at h
 split at h
 case h_2 => exact h.elim
 rename_i u t hT han hd
 cases hb : sameLay u t with
 | false => rw [hb] at h; exact h.elim
 | true =>
 rw [hb] at h
 have hh : (w.alloc (.map #[] 0)).heap[w.heap.size]? = some (.map #[] 0) := by
  show (w.heap.push _)[w.heap.size]? = _
  rw [Array.getElem?_push, if_pos rfl]
 refine ⟨.map (some w.heap.size), w.alloc (.map #[] 0), I, fun _ => [.map (some w.heap.size)], fun _ => [w.heap.size], .ref d [], [(d, ⟨.mp t, some ([], 0)⟩)], ?_, .alloc w _, fun _ h => h, fun _ h => .inl h,
  .one hd (Rep.mpI (MapR.empty _ _ hh)) (by simp) (fun b hb => ?_), ?_, h⟩
 ·simp [execOp, ho, Instr.makeMap, newObj, Sem.run]
 ·simp only [List.mem_singleton] at hb
  subst hb
  exact ⟨Nat.le_refl _, by simp, fun h => by have := hR.ib _ (.inl h); omega⟩
 ·have hl : lk ([(d, (⟨.mp t, some ([], 0)⟩ : Tree))] ++ st.h) d = some ⟨.mp t, some ([], 0)⟩ := by rw [List.singleton_append, lk_cons, if_pos rfl]
  refine .ref (t := ⟨.mp t, some ([], 0)⟩) (τ' := .mp t) (loc := none) (cs := [.map (some w.heap.size)]) hl ?_
  have : mixv [(d, (⟨.mp t, some ([], 0)⟩ : Tree))] (fun _ => [Value.map (some w.heap.size)]) rt d = [.map (some w.heap.size)] := by simp [mixv, lk_cons]
  rw [this]
  exact Nav.here
def lookV (t : Ty) (m : Option (List (Int × t.den) × Nat)) (z : t.den) (k : Int) : Bool → AV
 | true => .tup [.val t ((mLk m k).getD z), .val .bool (mLk m k).isSome]
 | false => .val t ((mLk m k).getD z)
def lookF (tt : List (TypeId × Ty)) (h : List (Nat × Tree)) (T : TypeId) (x k : AV) (ok : Bool) : Res :=
 match isMapT tt T, k with
 | some u, .val (.int .i64) k => match x with
   | .val (.vm m t) mm => match zeroD t with
     | some z => bif sameLay u t then .tot (lookV t mm z k ok) [] else .bad
     | none => .bad
   | .ref id p => match lk h id with
     | some τx => match tyAt τx.1 p with
       | some (.mp t) => match zeroD t with
         | some z => bif sameLay u t then .part (Option (List (Int × t.den) × Nat)) (fun mm => GetP τx.1 τx.2 p (.mp t) mm) (fun mm => (lookV t mm z k ok, [])) else .bad
         | none => .bad
       | _ => .bad
     | none => .bad
   | _ => .bad
 | _, _ => .bad
theorem look_run {T K S : TypeId} {t : Ty} (hT : E.P.underlying T = some (.map K S)) (hK : E.P.underlying K = some (.int .i64)) (hS : TyF E.P t S) {x k : Operand} {ok : Bool} (ho : o.op = .lookup T x k ok) {n : Int} (hk : a.eval k = .int .i64 n) {z : t.den} (hz : zeroD t = some z)
  {m : Option (List (Int × t.den) × Nat)} (hx : (m = none ∧ a.eval x = .map none) ∨ ∃ b l c es L, m = some (l, c) ∧ a.eval x = .map (some b) ∧ MapR (md I C.B) w t b l c es L) :
  ∃ v, (execOp a.eval o).run E.P w = .ok (.value v) w ∧ ∀ h : List (Nat × Tree), AVok (md I C.B) w h rt fp (lookV t m z n ok) v := by
 obtain ⟨i, zv, q1, q2, q3, q4⟩ := zero_rep hS hz
 have hzr : (zeroValue S).run E.P w = .ok zv w := by simp [zeroValue, typeInfo, q1, q2]
 -- the value and whether it is there
 have key : ∃ cs, Rep (md I C.B) w t cs ((mLk m n).getD z) [] ∧ (Instr.lookup T (a.eval x) (.int .i64 n) ok).run E.P w = .ok (if ok then .tuple #[regV t cs, .bool (mLk m n).isSome] else regV t cs) w := by
  rcases hx with ⟨rfl, hx⟩ | ⟨b, l, c, es, L, rfl, hx, hM⟩
  ·refine ⟨zv.cells.toList, by simpa [mLk] using q4 _ _, ?_⟩
   rw [hx]
   have hf : (Instr.findKey K (.int .i64 n) []).run E.P w = .ok none w := run_findKey hK rfl
   simp only [Instr.lookup, Sem.run_bind, run_underlying hT, Result.andThen_ok, Sem.run_pure, run_checkKey hK, hf, hzr]
   rw [← q3]
   cases ok <;> rfl
  ·rw [hx]
   rcases hM.find (P := E.P) hK n with ⟨h1, _, h3⟩ | ⟨i', s, y, ds, h1, _, h4, h5, h6, h7⟩
   ·refine ⟨zv.cells.toList, by simpa [mLk, h1] using q4 _ _, ?_⟩
    simp only [Instr.lookup, Sem.run_bind, run_underlying hT, Result.andThen_ok, Sem.run_pure, run_getObj_map hM.h, run_checkKey hK, h3, hzr]
    rw [← q3]
    simp only [mLk, Option.bind_some, h1, Option.isSome_none]
   ·refine ⟨ds, by simpa [mLk, h1] using h6, ?_⟩
    simp only [Instr.lookup, Sem.run_bind, run_underlying hT, Result.andThen_ok, Sem.run_pure, run_getObj_map hM.h, run_checkKey hK, h7]
    simp only [mLk, Option.bind_some, h1, Option.isSome_some]
 obtain ⟨cs, hr, hrun⟩ := key
 refine ⟨_, by simp only [execOp, ho, hk, Sem.run_bind, hrun]; rfl, fun h => ?_⟩
 cases ok with
 | false => exact .val hr
 | true =>
   refine .tup (by simp) (fun i av v h1 h2 => ?_)
   match i with
   | 0 => simp at h1 h2; subst h1; subst h2; exact .val hr
   | 1 => simp at h1 h2; subst h1; subst h2; exact .bool _
   | n + 2 => simp at h1
theorem Rep.mpCases {M : Md → Nat → Prop} {t : Ty} {cs : List Value} {m : Option (List (Int × t.den) × Nat)} {f : List Nat} (h : Rep M w (.mp t) cs m f) : (m = none ∧ cs = [.map none] ∧ f = []) ∨ ∃ b l c es L, m = some (l, c) ∧ cs = [.map (some b)] ∧ f = [b] ∧ MapR M w t b l c es L := by
 cases m with
 | none => exact .inl ⟨rfl, h.2, h.1⟩
 | some q =>
   obtain ⟨l, c⟩ := q
   obtain ⟨b, es, L, h1, h2, h3⟩ := h.mpE
   exact .inr ⟨b, l, c, es, L, rfl, h1, h2, h3⟩
theorem Rep.vmCases {M : Md → Nat → Prop} {t : Ty} {md' : Md} {cs : List Value} {m : Option (List (Int × t.den) × Nat)} {f : List Nat} (h : Rep M w (.vm md' t) cs m f) : (m = none ∧ cs = [.map none]) ∨ ∃ b l c es L, m = some (l, c) ∧ cs = [.map (some b)] ∧ MapR M w t b l c es L := by
 cases m with
 | none => exact .inl ⟨rfl, h.2⟩
 | some q =>
   obtain ⟨l, c⟩ := q
   obtain ⟨b, es, L, h1, _, _, h3⟩ := h.vmE
   exact .inr ⟨b, l, c, es, L, rfl, h1, h3⟩
theorem lookF_sound (hR : RelAt C st a.tmps w I rt fp) {T : TypeId} {x k : Operand} {ok : Bool} (ho : o.op = .lookup T x k ok) (h : (lookF E.tt st.h T (opA st.g x) (opA st.g k) ok).K Q) : Yields E C st a w I rt fp o Q := by
 have hx := hR.opA x
 have hk := hR.opA k
 unfold lookF at h
 split at h
 case h_2 => exact h.elim
 rename_i u n hT ek
 obtain ⟨K, S, t1, t2, t3⟩ := isMapT.ok hT
 rw [ek] at hk
 generalize hkv : a.eval k = kv at hk
 cases hk with | val rk =>
 obtain ⟨_, rfl⟩ := rk
 split at h
 ·rename_i m t mm ex
  split at h
  case h_2 => exact h.elim
  rename_i z hz
  cases hb : sameLay u t with
  | false => rw [hb] at h; exact h.elim
  | true =>
  rw [hb] at h
  rw [ex] at hx
  generalize hxv : a.eval x = xv at hx
  cases hx with | val r =>
  obtain ⟨v, r1, r2⟩ := look_run (rt := rt) (fp := fp) (I := I) (C := C) (E := E) (w := w) (a := a) (m := mm) t1 t2 (t3.lay hb) ho hkv hz (by
   rcases r.vmCases with ⟨e1, e2⟩ | ⟨b, l, c, es, L, e1, e2, e3⟩
   ·exact .inl ⟨e1, by rw [hxv, e2]; rfl⟩
   ·exact .inr ⟨b, l, c, es, L, e1, by rw [hxv, e2]; rfl, e3⟩)
  exact .pure r1 (r2 _) h
 ·rename_i id p ex
  split at h
  case h_2 => exact h.elim
  rename_i τx ht
  split at h
  case h_2 => exact h.elim
  rename_i t hty
  split at h
  case h_2 => exact h.elim
  rename_i z hz
  cases hb : sameLay u t with
  | false => rw [hb] at h; exact h.elim
  | true =>
  rw [hb] at h
  obtain ⟨mm, hg, h⟩ := h
  rw [ex] at hx
  generalize hxv : a.eval x = xv at hx
  cases hx with | ref ht' hn =>
  rw [ht] at ht'; cases ht'
  obtain ⟨rfl, f, hr, _⟩ := hR.getP ht hg hn
  obtain ⟨v, r1, r2⟩ := look_run (rt := rt) (fp := fp) (I := I) (C := C) (E := E) (w := w) (a := a) (m := mm) t1 t2 (t3.lay hb) ho hkv hz (by
   rcases hr.mpCases with ⟨e1, e2, _⟩ | ⟨b, l, c, es, L, e1, e2, _, e3⟩
   ·exact .inl ⟨e1, by rw [hxv, e2]; rfl⟩
   ·exact .inr ⟨b, l, c, es, L, e1, by rw [hxv, e2]; rfl, e3⟩)
  exact .pure r1 (r2 _) h
 ·exact h.elim
def mlnF (tt : List (TypeId × Ty)) (h : List (Nat × Tree)) (T : TypeId) (x : AV) : Res :=
 match isMapT tt T with
 | none => .bad
 | some _ => match x with
   | .val (.vm _ t) mm => .tot (.val (.int .i64) (mLn (α := t.den) mm)) []
   | .ref id p => match lk h id with
     | some τx => match tyAt τx.1 p with
       | some (.mp t) => .part (Option (List (Int × t.den) × Nat)) (fun mm => GetP τx.1 τx.2 p (.mp t) mm) (fun mm => (.val (.int .i64) (mLn mm), []))
       | _ => .bad
     | none => .bad
   | _ => .bad
theorem mln_run {T K S : TypeId} {t : Ty} (hT : E.P.underlying T = some (.map K S)) {x : Operand} (ho : o.op = .call { callee := .builtin .len, args := #[x], argTypes := #[T] })
  {m : Option (List (Int × t.den) × Nat)} (hx : (m = none ∧ a.eval x = .map none) ∨ ∃ b l c es L, m = some (l, c) ∧ a.eval x = .map (some b) ∧ MapR (md I C.B) w t b l c es L) :
  (execOp a.eval o).run E.P w = .ok (.value (.int .i64 (mLn m))) w := by
 rcases hx with ⟨rfl, hx⟩ | ⟨b, l, c, es, L, rfl, hx, hM⟩
 ·simp [execOp, ho, resolve, invoke, builtin, hx, Builtin.len_, run_underlying hT, goInt, mLn]
 ·have h1 : es.size = l.length := by rw [hM.n, hM.mc.len]
  simp only [execOp, ho, resolve, invoke, builtin, Sem.run_bind, Sem.run_pure, Result.andThen_ok, List.map_toArray, List.map_cons, List.map_nil, hx, Builtin.len_, List.getElem?_toArray, List.getElem?_cons_zero, run_underlying hT, run_getObj_map hM.h, goInt, mLn, h1]
theorem mlnF_sound (hR : RelAt C st a.tmps w I rt fp) {T : TypeId} {x : Operand} (ho : o.op = .call { callee := .builtin .len, args := #[x], argTypes := #[T] }) (h : (mlnF E.tt st.h T (opA st.g x)).K Q) : Yields E C st a w I rt fp o Q := by
 have hx := hR.opA x
 unfold mlnF at h
 split at h
 ·exact h.elim
 rename_i u hT
 obtain ⟨K, S, t1, t2, t3⟩ := isMapT.ok hT
 generalize hxv : a.eval x = xv at hx
 split at h
 ·rename_i m t mm ex
  rw [ex] at hx
  cases hx with | val r =>
  refine .pure (mln_run (I := I) (C := C) (m := mm) t1 ho ?_) (.int _ _) h
  rcases r.vmCases with ⟨e1, e2⟩ | ⟨b, l, c, es, L, e1, e2, e3⟩
  ·exact .inl ⟨e1, by rw [hxv, e2]; rfl⟩
  ·exact .inr ⟨b, l, c, es, L, e1, by rw [hxv, e2]; rfl, e3⟩
 ·rename_i id p ex
  split at h
  case h_2 => exact h.elim
  rename_i τx ht
  split at h
  case h_2 => exact h.elim
  rename_i t hty
  obtain ⟨mm, hg, h⟩ := h
  rw [ex] at hx
  cases hx with | ref ht' hn =>
  rw [ht] at ht'; cases ht'
  obtain ⟨rfl, f, hr, _⟩ := hR.getP ht hg hn
  refine .pure (mln_run (I := I) (C := C) (m := mm) t1 ho ?_) (.int _ _) h
  rcases hr.mpCases with ⟨e1, e2, _⟩ | ⟨b, l, c, es, L, e1, e2, _, e3⟩
  ·exact .inl ⟨e1, by rw [hxv, e2]; rfl⟩
  ·exact .inr ⟨b, l, c, es, L, e1, by rw [hxv, e2]; rfl, e3⟩
 ·exact h.elim
end
end Go.Fw
end
section
namespace Go.Fw
section
variable {E : Env} {C : Ctx} {st : St} {a : Act} {w : World} {I : Nat → Prop} {rt : Nat → List Value} {fp : Nat → List Nat} {o : Oper} {Q : AV → List (Nat × Tree) → Prop}
def pickF (c x y : AV) : Res :=
 match c with
 | .val .bool c => .part Bool (fun b => c = b) (fun b => (match b with | true => x | false => y, []))
 | _ => .bad
theorem pickF_sound (hR : RelAt C st a.tmps w I rt fp) {c x y : Operand} (ho : o.op = .pick c x y) (h : (pickF (opA st.g c) (opA st.g x) (opA st.g y)).K Q) : Yields E C st a w I rt fp o Q := by
 have hc := hR.opA c
 unfold pickF at h
 split at h
 case h_2 => exact h.elim
 rename_i b ec
 obtain ⟨b, rfl, h⟩ := h
 rw [ec] at hc
 generalize hv : a.eval c = v at hc
 cases hc with | val r =>
 obtain ⟨_, rfl⟩ := r
 cases b
 ·exact .pure (v := a.eval y) (by simp [execOp, ho, hv, regV, asBool]) (hR.opA y) h
 ·exact .pure (v := a.eval x) (by simp [execOp, ho, hv, regV, asBool]) (hR.opA x) h
def unF (op : UnOp) (x : AV) : Res :=
 match op, x with
 | .neg, .val (.int k) x => .part Int (fun z => k.wrap (0 - x) = z) (fun z => (.val (.int k) z, []))
 | .xor, .val (.int k) x => .part Int (fun z => k.wrap (BitVec.ofInt k.bits (if k.signed then -1 else k.max) ^^^ BitVec.ofInt k.bits x).toNat = z) (fun z => (.val (.int k) z, []))
 | .not, .val .bool b => .tot (.val .bool (!b)) []
 | _, _ => .bad
theorem unF_sound (hR : RelAt C st a.tmps w I rt fp) {op : UnOp} {T : TypeId} {x : Operand} (ho : o.op = .unOp op T x) (h : (unF op (opA st.g x)).K Q) : Yields E C st a w I rt fp o Q := by
 have hx := hR.opA x
 unfold unF at h
 generalize hv : a.eval x = v at hx
 split at h
 ·rename_i k n ex
  obtain ⟨z, rfl, h⟩ := h
  rw [ex] at hx
  cases hx with | val r =>
  obtain ⟨_, rfl⟩ := r
  exact .pure (v := .int k _) (by simp only [execOp, ho, hv, regV, Op.unary, Op.intArith]; rfl) (.int k _) h
 ·rename_i k n ex
  obtain ⟨z, rfl, h⟩ := h
  rw [ex] at hx
  cases hx with | val r =>
  obtain ⟨_, rfl⟩ := r
  exact .pure (v := .int k _) (by simp only [execOp, ho, hv, regV, Op.unary, Op.intBits]; rfl) (.int k _) h
 ·rename_i b ex
  rw [ex] at hx
  cases hx with | val r =>
  obtain ⟨_, rfl⟩ := r
  exact .pure (v := .bool _) (by simp only [execOp, ho, hv, regV, Op.unary]; rfl) (.bool _) h
 ·exact h.elim
def convF (tt : List (TypeId × Ty)) (s d : TypeId) (x : AV) : Res :=
 match lk tt s, lk tt d, x with
 | some (.int _), some (.int k), .val (.int _) x => .part Int (fun z => k.wrap x = z) (fun z => (.val (.int k) z, []))
 | _, _, _ => .bad
theorem convF_sound (hR : RelAt C st a.tmps w I rt fp) {s d : TypeId} {x : Operand} (ho : o.op = .convert s d x) (h : (convF E.tt s d (opA st.g x)).K Q) : Yields E C st a w I rt fp o Q := by
 have hx := hR.opA x
 unfold convF at h
 split at h
 case h_2 => exact h.elim
 rename_i k1 k2 k3 n h1 h2 ex
 obtain ⟨z, rfl, h⟩ := h
 generalize hv : a.eval x = v at hx
 rw [ex] at hx
 cases hx with | val r =>
 obtain ⟨_, rfl⟩ := r
 obtain ⟨_, _, _, _, _, u1⟩ := E.ok s _ h1
 obtain ⟨_, _, _, _, _, u2⟩ := E.ok d _ h2
 exact .pure (v := .int k2 _) (by simp [execOp, ho, hv, regV, convert, run_underlying u1, run_underlying u2, Conv.intToInt]) (.int k2 _) h
def strI (s : ByteArray) (n : Int) : Option Int := if 0 ≤ n then (s[n.toNat]?).map fun b => (b.toNat : Int) else none
def lenTab : ByteArray := ⟨#[0, 1, 2, 2, 3, 3, 3, 3, 4, 4, 4, 4, 4, 4, 4, 4, 5, 5, 5, 5, 5, 5, 5, 5, 5, 5, 5, 5, 5, 5, 5, 5, 6, 6, 6, 6, 6, 6, 6, 6, 6, 6, 6, 6, 6, 6, 6, 6, 6, 6, 6, 6, 6, 6, 6, 6, 6, 6, 6, 6, 6, 6, 6, 6, 7, 7, 7, 7, 7, 7, 7, 7, 7, 7, 7, 7, 7, 7, 7, 7, 7, 7, 7, 7, 7, 7, 7, 7, 7, 7, 7, 7, 7, 7, 7, 7, 7, 7, 7, 7, 7, 7, 7, 7, 7, 7, 7, 7, 7, 7, 7, 7, 7, 7, 7, 7, 7, 7, 7, 7, 7, 7, 7, 7, 7, 7, 7, 7, 8, 8, 8, 8, 8, 8, 8, 8, 8, 8, 8, 8, 8, 8, 8, 8, 8, 8, 8, 8, 8, 8, 8, 8, 8, 8, 8, 8, 8, 8, 8, 8, 8, 8, 8, 8, 8, 8, 8, 8, 8, 8, 8, 8, 8, 8, 8, 8, 8, 8, 8, 8, 8, 8, 8, 8, 8, 8, 8, 8, 8, 8, 8, 8, 8, 8, 8, 8, 8, 8, 8, 8, 8, 8, 8, 8, 8, 8, 8, 8, 8, 8, 8, 8, 8, 8, 8, 8, 8, 8, 8, 8, 8, 8, 8, 8, 8, 8, 8, 8, 8, 8, 8, 8, 8, 8, 8, 8, 8, 8, 8, 8, 8, 8, 8, 8, 8, 8, 8, 8, 8, 8, 8, 8, 8, 8, 8, 8]⟩
def strF (tt : List (TypeId × Ty)) (T : TypeId) (x i : AV) : Res :=
 match lk tt T, x, i with
 | some .str, .cv (.string s), .val (.int _) n => .part Int (fun b => strI s n = some b) (fun b => (.val (.int .u8) b, []))
 | some .str, .val .str s, .val (.int _) n => .part Int (fun b => strI s n = some b) (fun b => (.val (.int .u8) b, []))
 | _, _, _ => .bad
theorem strF_sound (hR : RelAt C st a.tmps w I rt fp) {T : TypeId} {x i : Operand} (ho : o.op = .index T x i) (h : (strF E.tt T (opA st.g x) (opA st.g i)).K Q) : Yields E C st a w I rt fp o Q := by
 have hx := hR.opA x
 have hi := hR.opA i
 have fin : ∀ (s : ByteArray) (k : IntKind) (n b : Int), lk E.tt T = some .str → a.eval x = .string s → a.eval i = .int k n → strI s n = some b → Q (.val (.int .u8) b) [] → Yields E C st a w I rt fp o Q := by
  intro s k n b hT ex ei hb hq
  obtain ⟨_, _, _, _, _, u⟩ := E.ok T _ hT
  refine .pure (v := .int .u8 b) ?_ (.int .u8 b) hq
  unfold strI at hb
  split at hb
  case isFalse => cases hb
  rename_i h0
  obtain ⟨c, hc, rfl⟩ := Option.map_eq_some_iff.1 hb
  simp [execOp, ho, Instr.index, ex, ei, asIntOf, run_underlying u, h0, hc]
 unfold strF at h
 split at h
 ·rename_i s k n hT ex ei
  obtain ⟨b, hb, hq⟩ := h
  rw [ex] at hx
  rw [ei] at hi
  generalize hv : a.eval x = v at hx
  generalize hu : a.eval i = u at hi
  cases hx
  cases hi with | val r =>
  obtain ⟨_, rfl⟩ := r
  exact fin s k n b hT hv hu hb hq
 ·rename_i s k n hT ex ei
  obtain ⟨b, hb, hq⟩ := h
  rw [ex] at hx
  rw [ei] at hi
  generalize hv : a.eval x = v at hx
  generalize hu : a.eval i = u at hi
  cases hx with | val r1 =>
  obtain ⟨_, rfl⟩ := r1
  cases hi with | val r =>
  obtain ⟨_, rfl⟩ := r
  exact fin s k n b hT hv hu hb hq
 ·exact h.elim
def extF (x : AV) (n : Nat) : Res :=
 match x with
 | .tup l => match l[n]? with
   | some av => .tot av []
   | none => .bad
 | _ => .bad
theorem extF_sound (hR : RelAt C st a.tmps w I rt fp) {x : Operand} {n : Nat} (ho : o.op = .extract x n) (h : (extF (opA st.g x) n).K Q) : Yields E C st a w I rt fp o Q := by
 have hx := hR.opA x
 unfold extF at h
 generalize hv : a.eval x = v at hx
 split at h
 case h_2 => exact h.elim
 rename_i l ex
 split at h
 case h_2 => exact h.elim
 rename_i av hl
 rw [ex] at hx
 cases hx with | tup hll hh =>
 rename_i vs
 have hn : n < vs.size := by have := (List.getElem?_eq_some_iff.1 hl).1; omega
 have : vs[n]? = some vs[n] := Array.getElem?_eq_getElem hn
 exact .pure (v := vs[n]) (by simp [execOp, ho, hv, Instr.extract, this]) (hh n av _ hl this) h
def mmF (mx : Bool) (x : AV) : List AV → Res
 | [] => .tot x []
 | y :: r => match x, y with
   | .val (.int k) x, .val (.int k') y => if k = k' then (match mx with | true => mmF mx (.val (.int k) (if y > x then y else x)) r | false => mmF mx (.val (.int k) (if y < x then y else x)) r) else .bad
   | _, _ => .bad
theorem mmF_sound (hR : RelAt C st a.tmps w I rt fp) (mx : Bool) : ∀ (r : List Operand) (x : AV) (v : Value), AVok (md I C.B) w st.h rt fp x v → (mmF mx x (r.map (opA st.g))).K Q →
  ∃ v' av, ((r.map a.eval).foldlM (match mx with | true => Builtin.max2 | false => Builtin.min2) v).run E.P w = .ok v' w ∧ AVok (md I C.B) w st.h rt fp av v' ∧ Q av []
 | [], x, v, hx, h => ⟨v, x, rfl, hx, h⟩
 | y :: r, x, v, hx, h => by
     have hy := hR.opA y
     simp only [List.map_cons, mmF] at h
     generalize hv : a.eval y = u at hy
     split at h
     case h_2 => exact h.elim
     rename_i k m k' n ey
     split at h
     case isFalse => exact h.elim
     rename_i hk
     subst hk
     rw [ey] at hy
     cases hx with | val r1 => cases hy with | val r2 =>
     obtain ⟨_, rfl⟩ := r1
     obtain ⟨_, rfl⟩ := r2
     cases mx
     ·obtain ⟨v', av, q1, q2, q3⟩ := mmF_sound hR false r _ _ (.int k _) h
      refine ⟨v', av, ?_, q2, q3⟩
      simp only [List.map_cons, List.foldlM_cons, hv, Sem.run_bind]
      exact q1
     ·obtain ⟨v', av, q1, q2, q3⟩ := mmF_sound hR true r _ _ (.int k _) h
      refine ⟨v', av, ?_, q2, q3⟩
      simp only [List.map_cons, List.foldlM_cons, hv, Sem.run_bind]
      exact q1
def isVal : AV → Bool
 | .val _ _ | .cv _ | .clo _ _ => true
 | _ => false
def evalF (tt : List (TypeId × Ty)) (an : List (Nat × Ty)) (h : List (Nat × Tree)) (g : Operand → AV) (d : Nat) (op : Op) : Res :=
 match op with
 | .move x => .tot (g x) []
 | .assign x => bif isVal (g x) then .tot (g x) [] else .bad
 | .pick c x y => pickF (g c) (g x) (g y)
 | .alloc T => allocF tt an h d T
 | .box T x => boxF tt h d T (g x)
 | .build T ps => bldF tt g T ps.toList
 | .buildSlice T n ps => bslF tt an h g d T n ps.toList
 | .load T x => loadF tt h T (g x)
 | .nilCheck x => nilF h (g x)
 | .binOp op T x y _ => match g x, g y with
   | .val .bool p, .val .bool q => match lk tt T with
     | some .bool => binF op (.val .bool p) (.val .bool q)
     | _ => .bad
   | .val (.int k) m, .val (.int k') n => binI op k m k' n
   | _, _ => .bad
 | .unOp op _ x => unF op (g x)
 | .convert s d x => convF tt s d (g x)
 | .makeSlice T l c => makeF tt an h d T (g l) (g c)
 | .slice T x lo hi none => slcF tt h T (g x) (lo.map g) (hi.map g)
 | .fieldAddr T x n => fldAF tt h T (g x) n
 | .field T x n => fldF tt h T (g x) n
 | .indexAddr T x i => idxF tt h T (g x) (g i)
 | .index T x i => strF tt T (g x) (g i)
 | .extract x n => extF (g x) n
 | .call c => match c.callee, c.args.toList, c.argTypes.toList with
   | .builtin .len, [x], [T] => match isSlcT tt T with
     | some _ => lenF tt h T (g x)
     | none => mlnF tt h T (g x)
   | .builtin .max, x :: r, _ => mmF true (g x) (r.map g)
   | .builtin .min, x :: r, _ => mmF false (g x) (r.map g)
   | _, _, _ => .bad
 | .makeMap T none => mkmF tt an h d T
 | .lookup T x k ok => lookF tt h T (g x) (g k) ok
 | .makeFunc (.func f) fs cs => bif fs.isEmpty then .tot (.clo f (cs.toList.map g)) [] else .bad
 | _ => .bad
theorem evalF_sound (hR : RelAt C st a.tmps w I rt fp) {an : List (Nat × Ty)} {d : Nat} (h : (evalF E.tt an st.h (opA st.g) d o.op).K Q) : Yields E C st a w I rt fp o Q := by
 unfold evalF at h
 split at h
 ·rename_i x ho
  exact .pure (v := a.eval x) (by simp [execOp, ho]) (hR.opA x) h
 ·rename_i x ho
  cases hb : isVal (opA st.g x) with
  | false => rw [hb] at h; exact h.elim
  | true => rw [hb] at h; exact .pure (v := a.eval x) (by simp [execOp, ho]) (hR.opA x) h
 ·rename_i ho; exact pickF_sound hR ho h
 ·rename_i ho; exact allocF_sound hR ho h
 ·rename_i ho; exact boxF_sound hR ho h
 ·rename_i ho; exact bldF_sound hR ho h
 ·rename_i ho; exact bslF_sound hR ho h
 ·rename_i ho; exact loadF_sound hR ho h
 ·rename_i ho; exact nilF_sound hR ho h
 ·rename_i op T x y u ho
  split at h
  ·rename_i p q ex ey
   split at h
   ·rename_i hT
    refine binF_sound hR ho (fun _ _ _ _ => ?_) (by rw [ex, ey]; exact h)
    exact (E.ok T _ hT).choose_spec.2.2.2.2
   ·exact h.elim
  ·rename_i ex ey
   refine binF_sound hR ho (fun p q _ hh => ?_) (by rw [ex, ey]; exact h)
   rw [ex] at hh; cases hh.1
  ·exact h.elim
 ·rename_i ho; exact unF_sound hR ho h
 ·rename_i ho; exact convF_sound hR ho h
 ·rename_i ho; exact makeF_sound hR ho h
 ·rename_i ho; exact slcF_sound hR ho h
 ·rename_i ho; exact fldAF_sound hR ho h
 ·rename_i ho; exact fldF_sound hR ho h
 ·rename_i ho; exact idxF_sound hR ho h
 ·rename_i ho; exact strF_sound hR ho h
 ·rename_i ho; exact extF_sound hR ho h
 ·rename_i c ho
  obtain ⟨callee, args, argTypes⟩ := c
  simp only at h
  split at h
  ·rename_i x T e1 e2
   have e1' : args = #[x] := by cases args; simp_all
   have e2' : argTypes = #[T] := by cases argTypes; simp_all
   subst e1'; subst e2'
   split at h
   ·exact lenF_sound hR ho h
   ·exact mlnF_sound hR ho h
  ·rename_i x r e1
   have e1' : args = (x :: r).toArray := by cases args; simp_all
   obtain ⟨v', av, q1, q2, q3⟩ := mmF_sound (E := E) hR true r _ _ (hR.opA x) h
   refine .pure (v := v') ?_ q2 q3
   simp only [execOp, ho, resolve, invoke, builtin, Sem.run_bind, Sem.run_pure, Result.andThen_ok, e1', Builtin.max_]
   simp only [List.map_toArray, List.map_cons, q1]
   rfl
  ·rename_i x r e1
   have e1' : args = (x :: r).toArray := by cases args; simp_all
   obtain ⟨v', av, q1, q2, q3⟩ := mmF_sound (E := E) hR false r _ _ (hR.opA x) h
   refine .pure (v := v') ?_ q2 q3
   simp only [execOp, ho, resolve, invoke, builtin, Sem.run_bind, Sem.run_pure, Result.andThen_ok, e1', Builtin.min_]
   simp only [List.map_toArray, List.map_cons, q1]
   rfl
  ·exact h.elim
 ·rename_i ho; exact mkmF_sound hR ho h
 ·rename_i ho; exact lookF_sound hR ho h
 ·rename_i f fs cs ho
  cases he : fs.isEmpty with
  | false => rw [he] at h; exact h.elim
  | true =>
    rw [he] at h
    obtain rfl : fs = #[] := by simpa using he
    refine .pure (v := .func (.func f) #[] (cs.map a.eval)) (by simp [execOp, ho, Instr.makeFunc]) (.clo (by simp) (fun i x v h1 h2 => ?_)) h
    rw [List.getElem?_map] at h1
    rw [Array.getElem?_map] at h2
    obtain ⟨y, hy, rfl⟩ := Option.map_eq_some_iff.1 h1
    obtain ⟨z, hz, rfl⟩ := Option.map_eq_some_iff.1 h2
    obtain rfl : y = z := by simpa [hz] using hy.symm
    exact hR.opA y
 ·exact h.elim
end
end Go.Fw
end