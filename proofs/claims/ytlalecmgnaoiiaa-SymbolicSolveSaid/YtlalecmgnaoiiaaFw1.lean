/-
  The framework, part 1: types of Go values as plain mathematics types, how memory represents them, and the focus lemma (one place of an owned tree is read or replaced).
-/
import Derived.Laws.AppendOwn
import Derived.ArgAppend
import Derived.Laws.IdiomCopy
import Derived.Laws.Cells
import Derived.Laws.MakeOwn
import Derived.Calls
import Derived.Orders
namespace Go.Fw

/-- How a slice or a pointer that nobody writes is known: 'imm': its memory stays as it is for good; 'bor': for the length of this call. -/
inductive Md where
  | imm
  | bor
  deriving DecidableEq

inductive Ty where
  | int (k : IntKind)
  | bool
  | str
  | slc (m : Md) (t : Ty)
  | ptr (m : Md) (t : Ty)
  | osl (t : Ty)
  | optr (t : Ty)
  | st (t : Ty)
  | pr (a b : Ty)
  | nil
  | blk
  deriving DecidableEq

def Ty.size : Ty → Nat
  | .pr a b => a.size + b.size
  | .st t => t.size
  | .nil | .blk => 0
  | _ => 1

@[reducible] def Ty.den : Ty → Type
  | .int _ => Int
  | .bool => Bool
  | .str => ByteArray
  | .slc _ t => List t.den
  | .ptr _ t => Option t.den
  | .osl t => List t.den
  | .optr t => t.den
  | .st t => t.den
  | .pr a b => a.den × b.den
  | .nil => Unit
  | .blk => Unit

/-- The cells of block b from place o on. -/
def At (w : World) (b o : Nat) (cs : List Value) : Prop := ∀ j v, cs[j]? = some v → w.cell? ⟨b, o + j, none⟩ = some v
/-- The places lo to hi - 1 of block b are there and may be written. -/
def Fr (w : World) (b lo hi : Nat) : Prop := ∀ j, lo ≤ j → j < hi → (w.cell? ⟨b, j, none⟩).isSome = true ∧ w.frozen? ⟨b, j, none⟩ = false
/-- Block b is the same in both worlds, cell by cell. -/
def Sm (w w' : World) (b : Nat) : Prop := ∀ j, w'.cell? ⟨b, j, none⟩ = w.cell? ⟨b, j, none⟩ ∧ w'.frozen? ⟨b, j, none⟩ = w.frozen? ⟨b, j, none⟩

theorem Sm.refl (w : World) (b : Nat) : Sm w w b := fun _ => ⟨rfl, rfl⟩
theorem Sm.trans {w w' w'' : World} {b : Nat} (h : Sm w w' b) (h' : Sm w' w'' b) : Sm w w'' b :=
  fun j => ⟨(h' j).1.trans (h j).1, (h' j).2.trans (h j).2⟩
theorem Sm.of_heap {w w' : World} {b : Nat} (h : w'.heap[b]? = w.heap[b]?) : Sm w w' b :=
  fun j => ⟨World.cell?_of_block (a := ⟨b, j, none⟩) h, World.frozen?_of_block (a := ⟨b, j, none⟩) h⟩
theorem At.sm {w w' : World} {b o : Nat} {cs : List Value} (h : At w b o cs) (hs : Sm w w' b) : At w' b o cs :=
  fun j v hj => by rw [(hs _).1]; exact h j v hj
theorem Fr.sm {w w' : World} {b lo hi : Nat} (h : Fr w b lo hi) (hs : Sm w w' b) : Fr w' b lo hi :=
  fun j h1 h2 => by rw [(hs _).1, (hs _).2]; exact h j h1 h2

/-- How cells represent a value; fp: the blocks that are owned. -/
def Rep (M : Md → Nat → Prop) (w : World) : (τ : Ty) → List Value → τ.den → List Nat → Prop
  | .int k, cs, n, fp => fp = [] ∧ cs = [.int k n]
  | .bool, cs, b, fp => fp = [] ∧ cs = [.bool b]
  | .str, cs, s, fp => fp = [] ∧ cs = [.string s]
  | .slc m t, cs, xs, fp => fp = [] ∧ ∃ a cap, cs = [.slice a xs.length cap] ∧ xs.length ≤ cap ∧ (a = none → cap = 0) ∧
      (xs = [] ∨ ∃ b o, a = some ⟨b, o, none⟩ ∧ M m b ∧ ∀ i x, xs[i]? = some x → ∃ ds, ds.length = t.size ∧ At w b (o + i * t.size) ds ∧ Rep M w t ds x [])
  | .ptr m t, cs, x, fp => fp = [] ∧ match x with
      | none => cs = [.pointer none]
      | some y => ∃ b o ds, cs = [.pointer (some ⟨b, o, none⟩)] ∧ M m b ∧ ds.length = t.size ∧ At w b o ds ∧ Rep M w t ds y []
  | .osl t, cs, xs, fp => ∃ a cap, cs = [.slice a xs.length cap] ∧
      ((a = none ∧ xs = [] ∧ cap = 0 ∧ fp = []) ∨ ∃ (b o : Nat) (fps : List (List Nat)), a = some ⟨b, o, none⟩ ∧ fp = b :: fps.flatten ∧ fps.length = xs.length ∧ xs.length ≤ cap ∧
        Fr w b o (o + cap * t.size) ∧ ∀ i x f, xs[i]? = some x → fps[i]? = some f → ∃ ds, ds.length = t.size ∧ At w b (o + i * t.size) ds ∧ Rep M w t ds x f)
  | .optr t, cs, y, fp => ∃ b o f ds, cs = [.pointer (some ⟨b, o, none⟩)] ∧ fp = b :: f ∧ ds.length = t.size ∧ At w b o ds ∧ Fr w b o (o + t.size) ∧ Rep M w t ds y f
  | .st t, cs, x, fp => Rep M w t cs x fp
  | .pr a b, cs, x, fp => ∃ f1 f2, fp = f1 ++ f2 ∧ Rep M w a (cs.take a.size) x.1 f1 ∧ Rep M w b (cs.drop a.size) x.2 f2
  | .nil, cs, _, fp => fp = [] ∧ cs = []
  | .blk, cs, _, _ => cs = []

theorem Rep.len {M : Md → Nat → Prop} {w : World} : ∀ {τ : Ty} {cs : List Value} {x : τ.den} {fp : List Nat}, Rep M w τ cs x fp → cs.length = τ.size
  | .int _, _, _, _, h => by rw [h.2]; rfl
  | .bool, _, _, _, h => by rw [h.2]; rfl
  | .str, _, _, _, h => by rw [h.2]; rfl
  | .slc _ _, _, _, _, h => by obtain ⟨_, a, cap, h, _⟩ := h; rw [h]; rfl
  | .ptr _ _, _, x, _, h => by
      obtain ⟨_, h⟩ := h
      cases x with
      | none => simp only at h; rw [h]; rfl
      | some y => obtain ⟨b, o, ds, h, _⟩ := h; rw [h]; rfl
  | .osl _, _, _, _, h => by obtain ⟨a, cap, h, _⟩ := h; rw [h]; rfl
  | .optr _, _, _, _, h => by obtain ⟨a, cap, f, ds, h, _⟩ := h; rw [h]; rfl
  | .st t, _, _, _, h => Rep.len (τ := t) h
  | .pr a b, cs, _, _, h => by
      obtain ⟨f1, f2, _, h1, h2⟩ := h
      have l1 := Rep.len (τ := a) h1
      have l2 := Rep.len (τ := b) h2
      simp only [List.length_take, List.length_drop] at l1 l2
      show cs.length = a.size + b.size
      omega
  | .nil, _, _, _, h => by rw [h.2]; rfl
  | .blk, _, _, _, h => by rw [show _ = [] from h]; rfl

theorem Rep.one {M : Md → Nat → Prop} {w : World} : ∀ {τ : Ty} {cs : List Value} {x : τ.den} {fp : List Nat}, Rep M w τ cs x fp → ∀ v ∈ cs, v.oneCell' = true
  | .int _, _, _, _, h => by rw [h.2]; simp [Value.oneCell']
  | .bool, _, _, _, h => by rw [h.2]; simp [Value.oneCell']
  | .str, _, _, _, h => by rw [h.2]; simp [Value.oneCell']
  | .slc _ _, _, _, _, h => by obtain ⟨_, a, cap, h, _⟩ := h; rw [h]; simp [Value.oneCell']
  | .ptr _ _, _, x, _, h => by
      obtain ⟨_, h⟩ := h
      cases x with
      | none => simp only at h; rw [h]; simp [Value.oneCell']
      | some y => obtain ⟨b, o, ds, h, _⟩ := h; rw [h]; simp [Value.oneCell']
  | .osl _, _, _, _, h => by obtain ⟨a, cap, h, _⟩ := h; rw [h]; simp [Value.oneCell']
  | .optr _, _, _, _, h => by obtain ⟨a, cap, f, ds, h, _⟩ := h; rw [h]; simp [Value.oneCell']
  | .st t, _, _, _, h => Rep.one (τ := t) h
  | .pr a b, cs, _, _, h => by
      obtain ⟨f1, f2, _, h1, h2⟩ := h
      have l1 := Rep.one (τ := a) h1
      have l2 := Rep.one (τ := b) h2
      intro v hv
      rw [← List.take_append_drop a.size cs] at hv
      rcases List.mem_append.1 hv with hv | hv
      · exact l1 v hv
      · exact l2 v hv
  | .nil, _, _, _, h => by rw [h.2]; simp
  | .blk, _, _, _, h => by rw [show _ = [] from h]; simp

/-- What nobody has written reads as it did; more may be known to stay. -/
theorem Rep.mono {M M' : Md → Nat → Prop} {w w' : World} (hM : ∀ m b, M m b → M' m b ∧ Sm w w' b) :
    ∀ {τ : Ty} {cs : List Value} {x : τ.den} {fp : List Nat}, Rep M w τ cs x fp → (∀ b ∈ fp, Sm w w' b) → Rep M' w' τ cs x fp
  | .int _, _, _, _, h, _ => h
  | .bool, _, _, _, h, _ => h
  | .str, _, _, _, h, _ => h
  | .slc m t, _, xs, _, h, _ => by
      obtain ⟨h0, a, cap, h1, h2, h3, h4⟩ := h
      refine ⟨h0, a, cap, h1, h2, h3, h4.imp id ?_⟩
      rintro ⟨b, o, ha, hb, hx⟩
      refine ⟨b, o, ha, (hM m b hb).1, fun i x hi => ?_⟩
      obtain ⟨ds, d1, d2, d3⟩ := hx i x hi
      exact ⟨ds, d1, d2.sm (hM m b hb).2, Rep.mono hM d3 (by simp)⟩
  | .ptr m t, _, x, _, h, _ => by
      obtain ⟨h0, h⟩ := h
      refine ⟨h0, ?_⟩
      cases x with
      | none => exact h
      | some y =>
        obtain ⟨b, o, ds, h1, h2, h3, h4, h5⟩ := h
        exact ⟨b, o, ds, h1, (hM m b h2).1, h3, h4.sm (hM m b h2).2, Rep.mono hM h5 (by simp)⟩
  | .osl t, _, xs, fp, h, hf => by
      obtain ⟨a, cap, h1, h2⟩ := h
      refine ⟨a, cap, h1, h2.imp id ?_⟩
      rintro ⟨b, o, fps, ha, hfp, hl, hc, hfr, hx⟩
      have hb : Sm w w' b := hf b (by rw [hfp]; simp)
      refine ⟨b, o, fps, ha, hfp, hl, hc, hfr.sm hb, fun i x f hi hfi => ?_⟩
      obtain ⟨ds, d1, d2, d3⟩ := hx i x f hi hfi
      refine ⟨ds, d1, d2.sm hb, Rep.mono hM d3 (fun c hc => hf c ?_)⟩
      rw [hfp]
      exact List.mem_cons_of_mem _ (List.mem_flatten.2 ⟨f, List.mem_of_getElem? hfi, hc⟩)
  | .optr t, _, _, _, h, hf => by
      obtain ⟨b, o, f, ds, h1, h2, h3, h4, h5, h6⟩ := h
      have hb : Sm w w' b := hf b (by rw [h2]; simp)
      exact ⟨b, o, f, ds, h1, h2, h3, h4.sm hb, h5.sm hb, Rep.mono hM h6 (fun c hc => hf c (by rw [h2]; exact List.mem_cons_of_mem _ hc))⟩
  | .st t, _, _, _, h, hf => Rep.mono (τ := t) hM h hf
  | .pr a b, cs, _, _, h, hf => by
      obtain ⟨f1, f2, hfp, h1, h2⟩ := h
      exact ⟨f1, f2, hfp, Rep.mono (τ := a) hM h1 (fun c hc => hf c (by rw [hfp]; exact List.mem_append_left _ hc)),
        Rep.mono (τ := b) hM h2 (fun c hc => hf c (by rw [hfp]; exact List.mem_append_right _ hc))⟩
  | .nil, _, _, _, h, _ => h
  | .blk, _, _, _, h, _ => h

def Ty.nb : Ty → Bool
  | .blk => false
  | .slc _ t | .ptr _ t | .osl t | .optr t | .st t => t.nb
  | .pr a b => a.nb && b.nb
  | _ => true

/-- The blocks that a value owns are those that memory says. -/
theorem Rep.uniq {M : Md → Nat → Prop} {w : World} : ∀ {τ : Ty} {cs : List Value} {x y : τ.den} {f g : List Nat}, τ.nb = true → Rep M w τ cs x f → Rep M w τ cs y g → f = g
  | .int _, _, _, _, _, _, _, h, h' => h.1.trans h'.1.symm
  | .bool, _, _, _, _, _, _, h, h' => h.1.trans h'.1.symm
  | .str, _, _, _, _, _, _, h, h' => h.1.trans h'.1.symm
  | .slc _ _, _, _, _, _, _, _, h, h' => h.1.trans h'.1.symm
  | .ptr _ _, _, _, _, _, _, _, h, h' => h.1.trans h'.1.symm
  | .nil, _, _, _, _, _, _, h, h' => h.1.trans h'.1.symm
  | .blk, _, _, _, _, _, hb, _, _ => by cases hb
  | .st t, _, _, _, _, _, hb, h, h' => Rep.uniq (τ := t) hb h h'
  | .pr a b, _, _, _, _, _, hb, h, h' => by
      simp only [Ty.nb, Bool.and_eq_true] at hb
      obtain ⟨f1, f2, rfl, h1, h2⟩ := h
      obtain ⟨g1, g2, rfl, h3, h4⟩ := h'
      rw [Rep.uniq (τ := a) hb.1 h1 h3, Rep.uniq (τ := b) hb.2 h2 h4]
  | .optr t, _, _, _, _, _, hb, h, h' => by
      obtain ⟨b, o, f, ds, h1, rfl, h3, h4, _, h6⟩ := h
      obtain ⟨b', o', f', ds', h1', rfl, h3', h4', _, h6'⟩ := h'
      rw [h1] at h1'
      simp only [List.cons.injEq, Value.pointer.injEq, Option.some.injEq, Addr.mk.injEq, and_true] at h1'
      obtain ⟨rfl, rfl⟩ := h1'
      obtain rfl : ds = ds' := by
        apply List.ext_getElem?
        intro j
        rcases Nat.lt_or_ge j ds.length with hj | hj
        · have q1 := h4 j ds[j] (by simp [hj])
          have q2 := h4' j (ds'[j]'(by omega)) (by simp)
          rw [q1] at q2
          simp only [Option.some.injEq] at q2
          rw [List.getElem?_eq_getElem hj, List.getElem?_eq_getElem (by omega), q2]
        · rw [List.getElem?_eq_none hj, List.getElem?_eq_none (by omega)]
      rw [Rep.uniq (τ := t) hb h6 h6']
  | .osl t, _, x, y, _, _, hb, h, h' => by
      obtain ⟨a, cap, h1, h2⟩ := h
      obtain ⟨a', cap', h1', h2'⟩ := h'
      rw [h1] at h1'
      simp only [List.cons.injEq, Value.slice.injEq, and_true] at h1'
      obtain ⟨rfl, hl, rfl⟩ := h1'
      rcases h2 with ⟨rfl, rfl, rfl, rfl⟩ | ⟨b, o, fps, rfl, rfl, q1, q2, q3, q4⟩
      · rcases h2' with ⟨_, rfl, _, rfl⟩ | ⟨b, o, fps, h0, _⟩
        · rfl
        · cases h0
      · rcases h2' with ⟨h0, _⟩ | ⟨b', o', fps', h0, rfl, q1', q2', q3', q4'⟩
        · cases h0
        · simp only [Option.some.injEq, Addr.mk.injEq, and_true] at h0
          obtain ⟨rfl, rfl⟩ := h0
          have : fps = fps' := by
            apply List.ext_getElem?
            intro j
            rcases Nat.lt_or_ge j x.length with hj | hj
            · have e1 : fps[j]? = some (fps[j]'(by omega)) := List.getElem?_eq_getElem (by omega)
              have e2 : fps'[j]? = some (fps'[j]'(by omega)) := List.getElem?_eq_getElem (by omega)
              obtain ⟨ds, d1, d2, d3⟩ := q4 j x[j] _ (by simp [hj]) e1
              obtain ⟨ds', d1', d2', d3'⟩ := q4' j (y[j]'(by omega)) _ (by simp) e2
              obtain rfl : ds = ds' := by
                apply List.ext_getElem?
                intro k
                rcases Nat.lt_or_ge k ds.length with hk | hk
                · have r1 := d2 k ds[k] (by simp [hk])
                  have r2 := d2' k (ds'[k]'(by omega)) (by simp)
                  rw [r1] at r2
                  simp only [Option.some.injEq] at r2
                  rw [List.getElem?_eq_getElem hk, List.getElem?_eq_getElem (by omega), r2]
                · rw [List.getElem?_eq_none hk, List.getElem?_eq_none (by omega)]
              rw [e1, e2, Rep.uniq (τ := t) hb d3 d3']
            · rw [List.getElem?_eq_none (by omega), List.getElem?_eq_none (by omega)]
          rw [this]

inductive Step where
  | idx (i : Nat)
  | deref
  | unst
  | fst
  | snd
  deriving DecidableEq

/-- The value at a path of a tree. -/
def GetP : (τ : Ty) → τ.den → List Step → (τ' : Ty) → τ'.den → Prop
  | τ, x, [], τ', y => ∃ h : τ = τ', h ▸ x = y
  | .osl t, xs, .idx i :: p, τ', y => ∃ e, xs[i]? = some e ∧ GetP t e p τ' y
  | .optr t, x, .deref :: p, τ', y => GetP t x p τ' y
  | .st t, x, .unst :: p, τ', y => GetP t x p τ' y
  | .pr a _, x, .fst :: p, τ', y => GetP a x.1 p τ' y
  | .pr _ b, x, .snd :: p, τ', y => GetP b x.2 p τ' y
  | _, _, _, _, _ => False

/-- The tree with another value at a path. -/
def SetP : (τ : Ty) → τ.den → List Step → (τ' : Ty) → τ'.den → τ.den → Prop
  | τ, _, [], τ', y, x' => ∃ h : τ = τ', h ▸ x' = y
  | .osl t, xs, .idx i :: p, τ', y, xs' => ∃ e e', xs[i]? = some e ∧ SetP t e p τ' y e' ∧ xs' = xs.set i e'
  | .optr t, x, .deref :: p, τ', y, x' => SetP t x p τ' y x'
  | .st t, x, .unst :: p, τ', y, x' => SetP t x p τ' y x'
  | .pr a _, x, .fst :: p, τ', y, x' => ∃ e', SetP a x.1 p τ' y e' ∧ x' = (e', x.2)
  | .pr _ b, x, .snd :: p, τ', y, x' => ∃ e', SetP b x.2 p τ' y e' ∧ x' = (x.1, e')
  | _, _, _, _, _, _ => False

theorem GetP.nil_iff {τ : Ty} {x : τ.den} {τ' : Ty} {y : τ'.den} : GetP τ x [] τ' y ↔ ∃ h : τ = τ', h ▸ x = y := by cases τ <;> exact Iff.rfl
theorem SetP.nil_iff {τ : Ty} {x x' : τ.den} {τ' : Ty} {y : τ'.den} : SetP τ x [] τ' y x' ↔ ∃ h : τ = τ', h ▸ x' = y := by cases τ <;> exact Iff.rfl

abbrev Loc := Option (Nat × Nat)

/-- The way through memory: the cells at a path, and where they lie. -/
def Nav (w : World) : (τ : Ty) → Loc → List Value → List Step → (τ' : Ty) → Loc → List Value → Prop
  | τ, loc, cs, [], τ', loc', cs' => τ = τ' ∧ loc = loc' ∧ cs = cs'
  | .osl t, _, cs, .idx i :: p, τ', loc', cs' => ∃ b o len cap ds, cs = [.slice (some ⟨b, o, none⟩) len cap] ∧ i < len ∧ ds.length = t.size ∧
      At w b (o + i * t.size) ds ∧ Nav w t (some (b, o + i * t.size)) ds p τ' loc' cs'
  | .optr t, _, cs, .deref :: p, τ', loc', cs' => ∃ b o ds, cs = [.pointer (some ⟨b, o, none⟩)] ∧ ds.length = t.size ∧ At w b o ds ∧ Nav w t (some (b, o)) ds p τ' loc' cs'
  | .st t, loc, cs, .unst :: p, τ', loc', cs' => Nav w t loc cs p τ' loc' cs'
  | .pr a _, loc, cs, .fst :: p, τ', loc', cs' => Nav w a loc (cs.take a.size) p τ' loc' cs'
  | .pr a b, loc, cs, .snd :: p, τ', loc', cs' => Nav w b (loc.map fun q => (q.1, q.2 + a.size)) (cs.drop a.size) p τ' loc' cs'
  | _, _, _, _, _, _, _ => False

theorem At.eq {w : World} {b o : Nat} {cs ds : List Value} (h : At w b o cs) (h' : At w b o ds) (hl : cs.length = ds.length) : cs = ds := by
  apply List.ext_getElem? 
  intro j
  rcases Nat.lt_or_ge j cs.length with hj | hj
  · have h1 := h j cs[j] (by simp [hj])
    have h2 := h' j (ds[j]'(by omega)) (by simp)
    rw [h1] at h2
    simp only [Option.some.injEq] at h2
    rw [List.getElem?_eq_getElem hj, List.getElem?_eq_getElem (by omega), h2]
  · rw [List.getElem?_eq_none hj, List.getElem?_eq_none (by omega)]

theorem Nav.det {w : World} : ∀ {p : List Step} {τ : Ty} {loc : Loc} {cs : List Value} {t1 t2 : Ty} {l1 l2 : Loc} {c1 c2 : List Value},
    Nav w τ loc cs p t1 l1 c1 → Nav w τ loc cs p t2 l2 c2 → t1 = t2 ∧ l1 = l2 ∧ c1 = c2
  | [], τ, loc, cs, _, _, _, _, _, _, h1, h2 => by
      simp only [Nav] at h1 h2
      exact ⟨h1.1.symm.trans h2.1, h1.2.1.symm.trans h2.2.1, h1.2.2.symm.trans h2.2.2⟩
  | s :: p, τ, loc, cs, _, _, _, _, _, _, h1, h2 => by
      cases τ <;> cases s <;> simp only [Nav] at h1 h2
      case osl.idx t i =>
        obtain ⟨b, o, len, cap, ds, e1, _, l1, a1, n1⟩ := h1
        obtain ⟨b', o', len', cap', ds', e2, _, l2, a2, n2⟩ := h2
        rw [e1] at e2
        simp only [List.cons.injEq, Value.slice.injEq, Option.some.injEq, Addr.mk.injEq, and_true] at e2
        obtain ⟨⟨rfl, rfl⟩, rfl, rfl⟩ := e2
        obtain rfl := a1.eq a2 (by omega)
        exact Nav.det n1 n2
      case optr.deref t =>
        obtain ⟨b, o, ds, e1, l1, a1, n1⟩ := h1
        obtain ⟨b', o', ds', e2, l2, a2, n2⟩ := h2
        rw [e1] at e2
        simp only [List.cons.injEq, Value.pointer.injEq, Option.some.injEq, Addr.mk.injEq, and_true] at e2
        obtain ⟨rfl, rfl⟩ := e2
        obtain rfl := a1.eq a2 (by omega)
        exact Nav.det n1 n2
      case st.unst t => exact Nav.det h1 h2
      case pr.fst a b => exact Nav.det h1 h2
      case pr.snd a b => exact Nav.det h1 h2

/-- Outside the n cells at loc the blocks of S are as they were; what is there is there, what may be written may be written. -/
def Chg (w w' : World) (loc : Loc) (n : Nat) (b : Nat) : Prop :=
  (∀ j, (∀ o, loc = some (b, o) → j < o ∨ o + n ≤ j) → w'.cell? ⟨b, j, none⟩ = w.cell? ⟨b, j, none⟩) ∧
  (∀ j, w'.frozen? ⟨b, j, none⟩ = w.frozen? ⟨b, j, none⟩) ∧ ∀ j, (w'.cell? ⟨b, j, none⟩).isSome = (w.cell? ⟨b, j, none⟩).isSome

theorem Chg.sm {w w' : World} {loc : Loc} {n b : Nat} (h : Chg w w' loc n b) (hl : ∀ o, loc ≠ some (b, o)) : Sm w w' b :=
  fun j => ⟨h.1 j (fun o ho => absurd ho (hl o)), h.2.1 j⟩
theorem Chg.fr {w w' : World} {loc : Loc} {n b lo hi : Nat} (h : Chg w w' loc n b) (hf : Fr w b lo hi) : Fr w' b lo hi :=
  fun j h1 h2 => by rw [h.2.1, h.2.2]; exact hf j h1 h2

def LocOk (w : World) (loc : Loc) (cs : List Value) (n : Nat) : Prop := ∀ b o, loc = some (b, o) → At w b o cs ∧ Fr w b o (o + n)

theorem At.take {w : World} {b o n : Nat} {cs : List Value} (h : At w b o cs) : At w b o (cs.take n) := fun j v hj => by
  rw [List.getElem?_take] at hj
  split at hj
  · exact h j v hj
  · cases hj
theorem At.drop {w : World} {b o n : Nat} {cs : List Value} (h : At w b o cs) : At w b (o + n) (cs.drop n) := fun j v hj => by
  rw [List.getElem?_drop] at hj
  have := h (n + j) v hj
  rwa [← Nat.add_assoc] at this
theorem At.append {w : World} {b o : Nat} {cs ds : List Value} (h : At w b o cs) (h' : At w b (o + cs.length) ds) : At w b o (cs ++ ds) := fun j v hj => by
  rw [List.getElem?_append] at hj
  split at hj
  · exact h j v hj
  · have := h' _ v hj
    rwa [show o + cs.length + (j - cs.length) = o + j by omega] at this

theorem split_at {α : Type} {l : List α} {i : Nat} {x : α} (h : l[i]? = some x) : ∃ pre post, l = pre ++ x :: post ∧ pre.length = i := by
  obtain ⟨hi, rfl⟩ := List.getElem?_eq_some_iff.1 h
  exact ⟨l.take i, l.drop (i + 1), by rw [List.getElem_cons_drop, List.take_append_drop], by simp; omega⟩

theorem Nav.sm {M : Md → Nat → Prop} {w w' : World} : ∀ {p : List Step} {τ : Ty} {loc : Loc} {cs : List Value} {x : τ.den} {fp : List Nat} {τ' : Ty} {loc' : Loc} {cs' : List Value},
    Rep M w τ cs x fp → (∀ b ∈ fp, Sm w w' b) → Nav w τ loc cs p τ' loc' cs' → Nav w' τ loc cs p τ' loc' cs'
  | [], τ, _, _, _, _, _, _, _, _, _, h => by cases τ <;> exact h
  | s :: p, τ, loc, cs, x, fp, τ', loc', cs', hr, hs, h => by
      cases τ <;> cases s <;> simp only [Nav] at h
      case osl.idx t i =>
        obtain ⟨b, o, len, cap, ds, rfl, hi, hl, ha, hn⟩ := h
        obtain ⟨a, cap', h1, h2⟩ := hr
        simp only [List.cons.injEq, Value.slice.injEq, and_true] at h1
        obtain ⟨rfl, rfl, rfl⟩ := h1
        rcases h2 with ⟨h0, _⟩ | ⟨b', o', fps, h0, rfl, q1, q2, q3, q4⟩
        · cases h0
        · simp only [Option.some.injEq, Addr.mk.injEq, and_true] at h0
          obtain ⟨rfl, rfl⟩ := h0
          obtain ⟨ds', d1, d2, d3⟩ := q4 i x[i] (fps[i]'(by omega)) (by simp [hi]) (by simp)
          obtain rfl := ha.eq d2 (by omega)
          exact ⟨b, o, _, cap, ds, rfl, hi, hl, ha.sm (hs b (by simp)), Nav.sm d3 (fun c hc => hs c (List.mem_cons_of_mem _ (List.mem_flatten.2 ⟨_, List.getElem_mem (by omega), hc⟩))) hn⟩
      case optr.deref t =>
        obtain ⟨b, o, ds, rfl, hl, ha, hn⟩ := h
        obtain ⟨b', o', f', ds', h1', rfl, h3', h4', _, h6'⟩ := hr
        simp only [List.cons.injEq, Value.pointer.injEq, Option.some.injEq, Addr.mk.injEq, and_true] at h1'
        obtain ⟨rfl, rfl⟩ := h1'
        obtain rfl := ha.eq h4' (by omega)
        exact ⟨b, o, ds, rfl, hl, ha.sm (hs b (by simp)), Nav.sm h6' (fun c hc => hs c (by simp [hc])) hn⟩
      case st.unst t => exact Nav.sm (τ := t) hr hs h
      case pr.fst a b =>
        obtain ⟨f1, f2, rfl, h1, h2⟩ := hr
        exact Nav.sm (τ := a) h1 (fun c hc => hs c (by simp [hc])) h
      case pr.snd a b =>
        obtain ⟨f1, f2, rfl, h1, h2⟩ := hr
        exact Nav.sm (τ := b) h2 (fun c hc => hs c (by simp [hc])) h

/-- Does a path go through memory? -/
def hasMem : List Step → Bool
  | [] => false
  | .idx _ :: _ => true
  | .deref :: _ => true
  | _ :: p => hasMem p
/-- Is what stands at path q the same cells where the place at path p is written? -/
def keepP : List Step → List Step → Bool
  | p, [] => hasMem p
  | .idx _ :: p, .idx _ :: q => keepP p q
  | .deref :: p, .deref :: q => keepP p q
  | .unst :: p, .unst :: q => keepP p q
  | .fst :: p, .fst :: q => keepP p q
  | .snd :: p, .snd :: q => keepP p q
  | .fst :: _, .snd :: _ => true
  | .snd :: _, .fst :: _ => true
  | _, _ => false

theorem Nav.root_iff {w : World} {τ τ' : Ty} {l l' : Loc} {cs cs' : List Value} : Nav w τ l cs [] τ' l' cs' ↔ τ = τ' ∧ l = l' ∧ cs = cs' := by cases τ <;> exact Iff.rfl

/-- THE FOCUS LEMMA: what is at a path, and that it may be replaced. -/
theorem focus {M : Md → Nat → Prop} {w : World} : ∀ (p : List Step) {τ : Ty} {loc : Loc} {cs : List Value} {x : τ.den} {fp : List Nat} {τ' : Ty} {y : τ'.den},
    Rep M w τ cs x fp → LocOk w loc cs τ.size → fp.Nodup → (∀ b o, loc = some (b, o) → b ∉ fp ∧ ∀ m, ¬ M m b) → (∀ b ∈ fp, ∀ m, ¬ M m b) → GetP τ x p τ' y →
    ∃ loc' cs' fp' rest, Nav w τ loc cs p τ' loc' cs' ∧ Rep M w τ' cs' y fp' ∧ LocOk w loc' cs' τ'.size ∧ fp.Perm (fp' ++ rest) ∧
      (∀ bt ot, loc' = some (bt, ot) → (∃ o, loc = some (bt, o) ∧ o ≤ ot ∧ ot + τ'.size ≤ o + τ.size) ∨ bt ∈ rest) ∧
      (∀ (w' : World) (M' : Md → Nat → Prop) (cs2 : List Value) (y2 : τ'.den) (fp2 : List Nat) (x2 : τ.den),
        (∀ m b, M m b → M' m b) → (∀ b, (∃ m, M m b) ∨ b ∈ rest ∨ (∃ o, loc = some (b, o)) → Chg w w' loc' τ'.size b) →
        Rep M' w' τ' cs2 y2 fp2 → (loc' = none → p ≠ [] → cs2 = cs') → (∀ b o, loc' = some (b, o) → At w' b o cs2) → SetP τ x p τ' y2 x2 →
        ∃ cs3 fp3, Rep M' w' τ cs3 x2 fp3 ∧ (p = [] → cs3 = cs2) ∧ (loc = none → (loc' ≠ none ∨ cs2 = cs') → cs3 = cs) ∧ (∀ b o, loc = some (b, o) → At w' b o cs3) ∧ fp3.Perm (fp2 ++ rest) ∧ Nav w' τ loc cs3 p τ' loc' cs2 ∧
          ∀ (q : List Step) (τq : Ty) (lq : Loc) (cq : List Value), keepP p q = true → Nav w τ loc cs q τq lq cq → Nav w' τ loc cs3 q τq lq cq) := by
  intro p
  induction p with
  | nil =>
    intro τ loc cs x fp τ' y hr hl hn hb hm hg
    obtain ⟨rfl, rfl⟩ := GetP.nil_iff.1 hg
    refine ⟨loc, cs, fp, [], (by cases τ <;> exact ⟨rfl, rfl, rfl⟩), hr, hl, by simp, fun bt ot h => .inl ⟨ot, h, by omega, by omega⟩, ?_⟩
    intro w' M' cs2 y2 fp2 x2 _ _ hr2 _ h2 hs
    obtain ⟨_, rfl⟩ := SetP.nil_iff.1 hs
    exact ⟨cs2, fp2, hr2, fun _ => rfl, fun h0 h => h.resolve_left (fun q => q h0), h2, by simp, (by cases τ <;> exact ⟨rfl, rfl, rfl⟩), fun q _ _ _ hk => by cases q <;> simp [keepP, hasMem] at hk⟩
  | cons s p ih =>
    intro τ loc cs x fp τ' y hr hl hn hb hm hg
    cases τ <;> cases s <;> simp only [GetP] at hg
    case osl.idx t i =>
      obtain ⟨e, he, hg⟩ := hg
      obtain ⟨a, cap, rfl, hr⟩ := hr
      rcases hr with ⟨_, rfl, _⟩ | ⟨b, o, fps, rfl, rfl, hlen, hcap, hfr, hx⟩
      · simp at he
      have hi : i < x.length := (List.getElem?_eq_some_iff.1 he).1
      obtain ⟨f, hf⟩ : ∃ f, fps[i]? = some f := ⟨fps[i], List.getElem?_eq_getElem (by omega)⟩
      obtain ⟨ds, hd1, hd2, hd3⟩ := hx i e f he hf
      obtain ⟨pre, post, hfps, hpre⟩ := split_at hf
      have hin : ∀ k, k < x.length → o + k * t.size + t.size ≤ o + cap * t.size := fun k hk => by
        have : (k + 1) * t.size ≤ cap * t.size := Nat.mul_le_mul_right _ (by omega)
        rw [Nat.add_mul, Nat.one_mul] at this
        omega
      have hlo : LocOk w (some (b, o + i * t.size)) ds t.size := by
        rintro b' o' h
        simp only [Option.some.injEq, Prod.mk.injEq] at h
        obtain ⟨rfl, rfl⟩ := h
        exact ⟨hd2, fun j h1 h2 => hfr j (by omega) (by have := hin i hi; omega)⟩
      have hnd := hn
      rw [hfps] at hnd
      simp only [List.flatten_append, List.flatten_cons, List.nodup_cons, List.nodup_append, List.mem_append, not_or] at hnd
      obtain ⟨⟨hb1, hb2, hb3⟩, hn1, ⟨hn2, hn3, hn4⟩, hn5⟩ := hnd
      obtain ⟨loc', cs', fp', rest, g1, g2, g3, g4, g5, g6⟩ := ih (loc := some (b, o + i * t.size)) hd3 hlo hn2
        (by rintro b' o' h; simp only [Option.some.injEq, Prod.mk.injEq] at h; obtain ⟨rfl, rfl⟩ := h; exact ⟨hb2, hm b (by simp)⟩)
        (fun c hc => hm c (by rw [hfps]; simp [hc])) hg
      refine ⟨loc', cs', fp', b :: (pre.flatten ++ (rest ++ post.flatten)), ⟨b, o, _, cap, ds, rfl, hi, hd1, hd2, g1⟩, g2, g3, ?_, ?_, ?_⟩
      · rw [hfps]
        simp only [List.flatten_append, List.flatten_cons]
        rw [List.perm_iff_count] at g4 ⊢
        intro c
        have := g4 c
        simp only [List.count_append, List.count_cons] at this ⊢
        omega
      · intro bt ot h
        right
        rcases g5 bt ot h with ⟨o', h1, _⟩ | h1
        · simp only [Option.some.injEq, Prod.mk.injEq] at h1
          rw [h1.1]; simp
        · simp [h1]
      · intro w' M' cs2 y2 fp2 x2 hMM hch hr2 hnone hat hs
        simp only [SetP] at hs
        obtain ⟨e0, e', he0, hs, rfl⟩ := hs
        obtain rfl : e0 = e := by rw [he] at he0; exact (Option.some.inj he0).symm
        obtain ⟨cs3, fp3, k1, _, _, k2, k3, k9, k10⟩ := g6 w' M' cs2 y2 fp2 e' hMM
          (by
            rintro c (h | h | ⟨o', h⟩)
            · exact hch c (.inl h)
            · exact hch c (.inr (.inl (by simp [h])))
            · simp only [Option.some.injEq, Prod.mk.injEq] at h
              exact hch c (.inr (.inl (by rw [← h.1]; simp)))) hr2
          (by
            intro h0 hp
            exact hnone h0 (by simp)) hat hs
        have hbt : ∀ bt ot, loc' = some (bt, ot) → (bt = b ∧ o + i * t.size ≤ ot ∧ ot + τ'.size ≤ o + i * t.size + t.size) ∨ bt ∈ f := by
          intro bt ot h
          rcases g5 bt ot h with ⟨o', h1, h2, h3⟩ | h1
          · simp only [Option.some.injEq, Prod.mk.injEq] at h1
            obtain ⟨rfl, rfl⟩ := h1
            exact .inl ⟨rfl, h2, h3⟩
          · exact .inr (g4.mem_iff.2 (by simp [h1]))
        have hcb := hch b (.inr (.inl (by simp)))
        have hMsm : ∀ m c, M m c → M' m c ∧ Sm w w' c := fun m c hc => ⟨hMM m c hc, (hch c (.inl ⟨m, hc⟩)).sm (fun o' h => by
          rcases hbt c o' h with ⟨rfl, _⟩ | h1
          · exact hm c (by simp) m hc
          · exact hm c (by rw [hfps]; simp [h1]) m hc)⟩
        have hoth : ∀ (k : Nat) (z : t.den) (g : List Nat), k ≠ i → x[k]? = some z → fps[k]? = some g → ∀ dk : List Value, dk.length = t.size → At w b (o + k * t.size) dk → At w' b (o + k * t.size) dk ∧ ∀ c ∈ g, Sm w w' c := by
          intro k z g hki hk hg' dk m1 m2
          have hkx : k < x.length := (List.getElem?_eq_some_iff.1 hk).1
          have hgn : ∀ c ∈ g, c ∈ pre.flatten ∨ c ∈ post.flatten := by
            intro c hc
            rw [hfps] at hg'
            rcases Nat.lt_or_ge k pre.length with h | h
            · rw [List.getElem?_append_left h] at hg'
              exact .inl (List.mem_flatten.2 ⟨g, List.mem_of_getElem? hg', hc⟩)
            · rw [List.getElem?_append_right h] at hg'
              obtain ⟨q, hq⟩ : ∃ q, k - pre.length = q + 1 := ⟨k - pre.length - 1, by omega⟩
              rw [hq] at hg'
              simp only [List.getElem?_cons_succ] at hg'
              exact .inr (List.mem_flatten.2 ⟨g, List.mem_of_getElem? hg', hc⟩)
          refine ⟨?_, ?_⟩
          · intro j v hj
            have hjl : j < dk.length := (List.getElem?_eq_some_iff.1 hj).1
            rw [hcb.1]
            · exact m2 j v hj
            · intro ot h
              rcases hbt b ot h with ⟨_, h1, h2⟩ | h1
              · rcases Nat.lt_or_gt_of_ne hki with hlt | hgt
                · left
                  have : (k + 1) * t.size ≤ i * t.size := Nat.mul_le_mul_right _ (by omega)
                  rw [Nat.add_mul, Nat.one_mul] at this
                  omega
                · right
                  have : (i + 1) * t.size ≤ k * t.size := Nat.mul_le_mul_right _ (by omega)
                  rw [Nat.add_mul, Nat.one_mul] at this
                  omega
              · exact absurd h1 hb2
          · intro c hc
            refine (hch c (.inr (.inl ?_))).sm ?_
            · rcases hgn c hc with h | h <;> simp [h]
            · intro ot h
              rcases hbt c ot h with ⟨rfl, _⟩ | h1
              · rcases hgn c hc with h | h
                · exact hb1 h
                · exact hb3 h
              · rcases hgn c hc with h | h
                · exact hn5 c h c (.inl h1) rfl
                · exact hn4 c h1 c h rfl
        refine ⟨[.slice (some ⟨b, o, none⟩) x.length cap], b :: (pre ++ fp3 :: post).flatten, ⟨some ⟨b, o, none⟩, cap, by simp, .inr ⟨b, o, pre ++ fp3 :: post, rfl, rfl, ?_, by simpa using hcap, hcb.fr hfr, ?_⟩⟩,
          by simp, fun _ _ => rfl, ?_, ?_, ⟨b, o, _, cap, cs3, rfl, hi, by rw [k1.len], k2 b _ rfl, k9⟩, ?_⟩
        · rw [hfps] at hlen; simpa using hlen
        · intro k z g hk hg
          by_cases hki : k = i
          · subst hki
            rw [List.getElem?_set_self hi] at hk
            obtain rfl := Option.some.inj hk
            rw [List.getElem?_append_right (by omega), hpre, Nat.sub_self] at hg
            simp only [List.getElem?_cons_zero, Option.some.injEq] at hg
            subst hg
            exact ⟨cs3, by rw [k1.len], k2 b _ rfl, k1⟩
          · rw [List.getElem?_set_ne (fun h => hki h.symm)] at hk
            have hg' : fps[k]? = some g := by
              rw [hfps]
              rcases Nat.lt_or_ge k pre.length with h | h
              · rw [List.getElem?_append_left h] at hg ⊢; exact hg
              · rw [List.getElem?_append_right h] at hg ⊢
                obtain ⟨q, hq⟩ : ∃ q, k - pre.length = q + 1 := ⟨k - pre.length - 1, by omega⟩
                rw [hq] at hg ⊢
                simpa using hg
            obtain ⟨dk, m1, m2, m3⟩ := hx k z g hk hg'
            obtain ⟨n1, n2⟩ := hoth k z g hki hk hg' dk m1 m2
            exact ⟨dk, m1, n1, m3.mono hMsm n2⟩
        · intro b' o' h
          have hb' := (hb b' o' h).1
          refine ((hl b' o' h).1).sm ((hch b' (.inr (.inr ⟨o', h⟩))).sm ?_)
          intro ot h'
          rcases hbt b' ot h' with ⟨rfl, _⟩ | h1
          · exact hb' (by simp)
          · exact hb' (by rw [hfps]; simp [h1])
        · rw [List.perm_iff_count] at k3 ⊢
          intro c
          have := k3 c
          simp only [List.flatten_append, List.flatten_cons, List.count_append, List.count_cons] at this ⊢
          omega
        · intro q τq lq cq hk hq
          cases q with
          | nil => exact hq
          | cons s' q =>
            cases s' <;> simp only [keepP] at hk <;> first | (cases hk; done) | skip
            rename_i j
            obtain ⟨b', o', len', cap', dj, h1, h2, h3, h4, h5⟩ := hq
            simp only [List.cons.injEq, Value.slice.injEq, Option.some.injEq, Addr.mk.injEq, and_true] at h1
            obtain ⟨⟨rfl, rfl⟩, rfl, rfl⟩ := h1
            by_cases hji : j = i
            · subst hji
              obtain rfl := h4.eq hd2 (by omega)
              exact ⟨b, o, _, cap, cs3, rfl, h2, k1.len, k2 b _ rfl, k10 q τq lq cq hk h5⟩
            · have hz : x[j]? = some x[j] := List.getElem?_eq_getElem h2
              have hgj : fps[j]? = some (fps[j]'(by omega)) := List.getElem?_eq_getElem _
              obtain ⟨dk, m1, m2, m3⟩ := hx j _ _ hz hgj
              obtain rfl := h4.eq m2 (by omega)
              obtain ⟨n1, n2⟩ := hoth j _ _ hji hz hgj dj h3 h4
              exact ⟨b, o, _, cap, dj, rfl, h2, h3, n1, Nav.sm m3 n2 h5⟩
    case optr.deref t =>
      obtain ⟨b, o, f, ds, rfl, rfl, hd1, hd2, hfr, hd3⟩ := hr
      simp only [List.nodup_cons] at hn
      obtain ⟨hbf, hnf⟩ := hn
      have hlo : LocOk w (some (b, o)) ds t.size := by
        rintro b' o' h
        simp only [Option.some.injEq, Prod.mk.injEq] at h
        obtain ⟨rfl, rfl⟩ := h
        exact ⟨hd2, hfr⟩
      obtain ⟨loc', cs', fp', rest, g1, g2, g3, g4, g5, g6⟩ := ih (loc := some (b, o)) hd3 hlo hnf
        (by rintro b' o' h; simp only [Option.some.injEq, Prod.mk.injEq] at h; obtain ⟨rfl, rfl⟩ := h; exact ⟨hbf, hm b (by simp)⟩)
        (fun c hc => hm c (by simp [hc])) hg
      refine ⟨loc', cs', fp', b :: rest, ⟨b, o, ds, rfl, hd1, hd2, g1⟩, g2, g3, ?_, ?_, ?_⟩
      · rw [List.perm_iff_count] at g4 ⊢
        intro c
        have := g4 c
        simp only [List.count_append, List.count_cons] at this ⊢
        omega
      · intro bt ot h
        right
        rcases g5 bt ot h with ⟨o', h1, _⟩ | h1
        · simp only [Option.some.injEq, Prod.mk.injEq] at h1
          rw [h1.1]; simp
        · simp [h1]
      · intro w' M' cs2 y2 fp2 x2 hMM hch hr2 hnone hat hs
        simp only [SetP] at hs
        obtain ⟨cs3, fp3, k1, _, _, k2, k3, k9, k10⟩ := g6 w' M' cs2 y2 fp2 x2 hMM
          (by
            rintro c (h | h | ⟨o', h⟩)
            · exact hch c (.inl h)
            · exact hch c (.inr (.inl (by simp [h])))
            · simp only [Option.some.injEq, Prod.mk.injEq] at h
              exact hch c (.inr (.inl (by rw [← h.1]; simp)))) hr2
          (fun h0 _ => hnone h0 (by simp)) hat hs
        have hcb := hch b (.inr (.inl (by simp)))
        refine ⟨[.pointer (some ⟨b, o, none⟩)], b :: fp3, ⟨b, o, fp3, cs3, rfl, rfl, k1.len, k2 b o rfl, hcb.fr hfr, k1⟩, by simp, fun _ _ => rfl, ?_, ?_, ⟨b, o, cs3, rfl, k1.len, k2 b o rfl, k9⟩, ?_⟩
        · intro b' o' h
          have hb' := (hb b' o' h).1
          refine ((hl b' o' h).1).sm ((hch b' (.inr (.inr ⟨o', h⟩))).sm ?_)
          intro ot h'
          rcases g5 b' ot h' with ⟨o1, h1, _⟩ | h1
          · simp only [Option.some.injEq, Prod.mk.injEq] at h1
            exact hb' (by rw [h1.1]; simp)
          · exact hb' (List.mem_cons_of_mem _ (g4.mem_iff.2 (by simp [h1])))
        · rw [List.perm_iff_count] at k3 ⊢
          intro c
          have := k3 c
          simp only [List.count_append, List.count_cons] at this ⊢
          omega
        · intro q τq lq cq hk hq
          cases q with
          | nil => exact hq
          | cons s' q =>
            cases s' <;> simp only [keepP] at hk <;> first | (cases hk; done) | skip
            obtain ⟨b', o', dj, h1, h3, h4, h5⟩ := hq
            simp only [List.cons.injEq, Value.pointer.injEq, Option.some.injEq, Addr.mk.injEq, and_true] at h1
            obtain ⟨rfl, rfl⟩ := h1
            obtain rfl := h4.eq hd2 (by omega)
            exact ⟨b, o, cs3, rfl, k1.len, k2 b o rfl, k10 q τq lq cq hk h5⟩
    case st.unst t =>
      obtain ⟨loc', cs', fp', rest, g1, g2, g3, g4, g5, g6⟩ := ih (loc := loc) (τ := t) hr hl hn hb hm hg
      refine ⟨loc', cs', fp', rest, g1, g2, g3, g4, g5, ?_⟩
      intro w' M' cs2 y2 fp2 x2 hMM hch hr2 hnone hat hs
      obtain ⟨cs3, fp3, k1, k4, k5, k2, k3, k9, k10⟩ := g6 w' M' cs2 y2 fp2 x2 hMM hch hr2 (fun h0 _ => hnone h0 (by simp)) hat hs
      refine ⟨cs3, fp3, k1, by simp, k5, k2, k3, k9, ?_⟩
      intro q τq lq cq hk hq
      cases q with
      | nil =>
        obtain ⟨rfl, rfl, rfl⟩ := Nav.root_iff.1 hq
        obtain ⟨_, _, e⟩ := Nav.root_iff.1 (k10 [] t loc cs (by simpa [keepP, hasMem] using hk) (Nav.root_iff.2 ⟨rfl, rfl, rfl⟩))
        exact Nav.root_iff.2 ⟨rfl, rfl, e⟩
      | cons s' q =>
        cases s' <;> simp only [keepP] at hk <;> first | (cases hk; done) | skip
        exact k10 q τq lq cq hk hq
    case pr.fst ta tb =>
      obtain ⟨f1, f2, rfl, h1, h2⟩ := hr
      have l1 := h1.len
      have l2 := h2.len
      simp only [List.length_take, List.length_drop] at l1 l2
      have hlo : LocOk w loc (cs.take ta.size) ta.size := fun b o h => ⟨(hl b o h).1.take, fun j q1 q2 => (hl b o h).2 j q1 (by show j < o + (ta.size + tb.size); omega)⟩
      simp only [List.nodup_append] at hn
      obtain ⟨hn1, hn2, hn3⟩ := hn
      obtain ⟨loc', cs', fp', rest, g1, g2, g3, g4, g5, g6⟩ := ih (loc := loc) h1 hlo hn1 (fun b o h => ⟨fun q => (hb b o h).1 (by simp [q]), (hb b o h).2⟩) (fun c hc => hm c (by simp [hc])) hg
      refine ⟨loc', cs', fp', rest ++ f2, g1, g2, g3, ?_, ?_, ?_⟩
      · rw [List.perm_iff_count] at g4 ⊢
        intro c
        have := g4 c
        simp only [List.count_append] at this ⊢
        omega
      · intro bt ot h
        rcases g5 bt ot h with ⟨o', q1, q2, q3⟩ | q1
        · exact .inl ⟨o', q1, q2, by show ot + τ'.size ≤ o' + (ta.size + tb.size); omega⟩
        · exact .inr (by simp [q1])
      · intro w' M' cs2 y2 fp2 x2 hMM hch hr2 hnone hat hs
        simp only [SetP] at hs
        obtain ⟨e', hs, rfl⟩ := hs
        obtain ⟨cs3, fp3, k1, _, k5, k2, k3, k9, k10⟩ := g6 w' M' cs2 y2 fp2 e' hMM
          (by
            rintro c (h | h | h)
            · exact hch c (.inl h)
            · exact hch c (.inr (.inl (by simp [h])))
            · exact hch c (.inr (.inr h))) hr2 (fun h0 _ => hnone h0 (by simp)) hat hs
        have hbt : ∀ bt ot, loc' = some (bt, ot) → (∃ o, loc = some (bt, o) ∧ o ≤ ot ∧ ot + τ'.size ≤ o + ta.size) ∨ bt ∈ f1 := fun bt ot h => (g5 bt ot h).imp id (fun q => g4.mem_iff.2 (by simp [q]))
        have hMsm : ∀ m c, M m c → M' m c ∧ Sm w w' c := fun m c hc => ⟨hMM m c hc, (hch c (.inl ⟨m, hc⟩)).sm (fun o' h => by
          rcases hbt c o' h with ⟨o, q, _⟩ | q
          · exact (hb c o q).2 m hc
          · exact hm c (by simp [q]) m hc)⟩
        have hsm2 : ∀ c ∈ f2, Sm w w' c := fun c hc => (hch c (.inr (.inl (by simp [hc])))).sm (fun ot h => by
          rcases hbt c ot h with ⟨o, q, _⟩ | q
          · exact (hb c o q).1 (by simp [hc])
          · exact hn3 c q c hc rfl)
        have l3 := k1.len
        refine ⟨cs3 ++ cs.drop ta.size, fp3 ++ f2, ⟨fp3, f2, rfl, ?_, ?_⟩, by simp, ?_, ?_, ?_, (by
          show Nav w' ta loc ((cs3 ++ cs.drop ta.size).take ta.size) p τ' loc' cs2
          rw [List.take_append_of_le_length (by omega), List.take_of_length_le (by omega)]; exact k9), ?_⟩
        · rw [List.take_append_of_le_length (by omega), List.take_of_length_le (by omega)]; exact k1
        · rw [List.drop_append_of_le_length (by omega), List.drop_of_length_le (by omega), List.nil_append]
          exact h2.mono hMsm hsm2
        · intro q1 q2
          rw [k5 q1 q2, List.take_append_drop]
        · intro b o h
          refine (k2 b o h).append ?_
          rw [l3]
          intro j v hj
          have hcb := hch b (.inr (.inr ⟨o, h⟩))
          have hjl : j < (cs.drop ta.size).length := (List.getElem?_eq_some_iff.1 hj).1
          simp only [List.length_drop] at hjl
          rw [hcb.1]
          · exact ((hl b o h).1.drop) j v hj
          · intro ot h'
            rcases hbt b ot h' with ⟨o1, q1, q2, q3⟩ | q
            · rw [h] at q1
              simp only [Option.some.injEq, Prod.mk.injEq, true_and] at q1
              right; omega
            · exact absurd (by simp [q]) (hb b o h).1
        · rw [List.perm_iff_count] at k3 ⊢
          intro c
          have := k3 c
          simp only [List.count_append] at this ⊢
          omega
        · intro q τq lq cq hk hq
          have e1 : (cs3 ++ cs.drop ta.size).take ta.size = cs3 := by rw [List.take_append_of_le_length (by omega), List.take_of_length_le (by omega)]
          have e2 : (cs3 ++ cs.drop ta.size).drop ta.size = cs.drop ta.size := by rw [List.drop_append_of_le_length (by omega), List.drop_of_length_le (by omega), List.nil_append]
          cases q with
          | nil =>
            obtain ⟨rfl, rfl, rfl⟩ := Nav.root_iff.1 hq
            obtain ⟨_, _, e⟩ := Nav.root_iff.1 (k10 [] ta loc (cs.take ta.size) (by simpa [keepP, hasMem] using hk) (Nav.root_iff.2 ⟨rfl, rfl, rfl⟩))
            exact Nav.root_iff.2 ⟨rfl, rfl, by rw [e, List.take_append_drop]⟩
          | cons s' q =>
            cases s' <;> simp only [keepP] at hk <;> first | (cases hk; done) | skip
            · show Nav w' ta loc ((cs3 ++ cs.drop ta.size).take ta.size) q τq lq cq
              rw [e1]
              exact k10 q τq lq cq hk hq
            · show Nav w' tb (loc.map fun q => (q.1, q.2 + ta.size)) ((cs3 ++ cs.drop ta.size).drop ta.size) q τq lq cq
              rw [e2]
              exact Nav.sm h2 hsm2 hq
    case pr.snd ta tb =>
      obtain ⟨f1, f2, rfl, h1, h2⟩ := hr
      have l1 := h1.len
      have l2 := h2.len
      simp only [List.length_take, List.length_drop] at l1 l2
      have hlo : LocOk w (loc.map fun q => (q.1, q.2 + ta.size)) (cs.drop ta.size) tb.size := by
        intro b o h
        cases loc with
        | none => simp at h
        | some q =>
          obtain ⟨b0, o0⟩ := q
          simp only [Option.map_some, Option.some.injEq, Prod.mk.injEq] at h
          obtain ⟨rfl, rfl⟩ := h
          exact ⟨(hl _ _ rfl).1.drop, fun j q1 q2 => (hl _ _ rfl).2 j (by omega) (by show j < o0 + (ta.size + tb.size); omega)⟩
      simp only [List.nodup_append] at hn
      obtain ⟨hn1, hn2, hn3⟩ := hn
      have hb2 : ∀ b o, (loc.map fun q => (q.1, q.2 + ta.size)) = some (b, o) → ∃ o0, loc = some (b, o0) ∧ o = o0 + ta.size := by
        intro b o h
        cases loc with
        | none => simp at h
        | some q =>
          obtain ⟨b0, o0⟩ := q
          simp only [Option.map_some, Option.some.injEq, Prod.mk.injEq] at h
          exact ⟨o0, by rw [h.1], h.2.symm⟩
      obtain ⟨loc', cs', fp', rest, g1, g2, g3, g4, g5, g6⟩ := ih (loc := loc.map fun q => (q.1, q.2 + ta.size)) h2 hlo hn2
        (fun b o h => by obtain ⟨o0, h, _⟩ := hb2 b o h; exact ⟨fun q => (hb b o0 h).1 (by simp [q]), (hb b o0 h).2⟩) (fun c hc => hm c (by simp [hc])) hg
      refine ⟨loc', cs', fp', rest ++ f1, g1, g2, g3, ?_, ?_, ?_⟩
      · rw [List.perm_iff_count] at g4 ⊢
        intro c
        have := g4 c
        simp only [List.count_append] at this ⊢
        omega
      · intro bt ot h
        rcases g5 bt ot h with ⟨o', q1, q2, q3⟩ | q1
        · obtain ⟨o0, q4, rfl⟩ := hb2 _ _ q1
          exact .inl ⟨o0, q4, by omega, by show ot + τ'.size ≤ o0 + (ta.size + tb.size); omega⟩
        · exact .inr (by simp [q1])
      · intro w' M' cs2 y2 fp2 x2 hMM hch hr2 hnone hat hs
        simp only [SetP] at hs
        obtain ⟨e', hs, rfl⟩ := hs
        obtain ⟨cs3, fp3, k1, _, k5, k2, k3, k9, k10⟩ := g6 w' M' cs2 y2 fp2 e' hMM
          (by
            rintro c (h | h | ⟨o, h⟩)
            · exact hch c (.inl h)
            · exact hch c (.inr (.inl (by simp [h])))
            · obtain ⟨o0, q4, rfl⟩ := hb2 _ _ h
              exact hch c (.inr (.inr ⟨o0, q4⟩))) hr2 (fun h0 _ => hnone h0 (by simp)) hat hs
        have hbt : ∀ bt ot, loc' = some (bt, ot) → (∃ o, loc = some (bt, o) ∧ o + ta.size ≤ ot ∧ ot + τ'.size ≤ o + ta.size + tb.size) ∨ bt ∈ f2 := fun bt ot h => by
          rcases g5 bt ot h with ⟨o', q1, q2, q3⟩ | q
          · obtain ⟨o0, q4, rfl⟩ := hb2 _ _ q1
            exact .inl ⟨o0, q4, q2, q3⟩
          · exact .inr (g4.mem_iff.2 (by simp [q]))
        have hMsm : ∀ m c, M m c → M' m c ∧ Sm w w' c := fun m c hc => ⟨hMM m c hc, (hch c (.inl ⟨m, hc⟩)).sm (fun o' h => by
          rcases hbt c o' h with ⟨o, q, _⟩ | q
          · exact (hb c o q).2 m hc
          · exact hm c (by simp [q]) m hc)⟩
        have hsm1 : ∀ c ∈ f1, Sm w w' c := fun c hc => (hch c (.inr (.inl (by simp [hc])))).sm (fun ot h => by
          rcases hbt c ot h with ⟨o, q, _⟩ | q
          · exact (hb c o q).1 (by simp [hc])
          · exact hn3 c hc c q rfl)
        have l3 := k1.len
        refine ⟨cs.take ta.size ++ cs3, f1 ++ fp3, ⟨f1, fp3, rfl, ?_, ?_⟩, by simp, ?_, ?_, ?_, (by
          show Nav w' tb (loc.map fun q => (q.1, q.2 + ta.size)) ((cs.take ta.size ++ cs3).drop ta.size) p τ' loc' cs2
          rw [List.drop_append_of_le_length (by simp; omega), List.drop_of_length_le (by simp; omega), List.nil_append]; exact k9), ?_⟩
        · rw [List.take_append_of_le_length (by simp; omega), List.take_take, Nat.min_self]
          exact h1.mono hMsm hsm1
        · rw [List.drop_append_of_le_length (by simp; omega), List.drop_of_length_le (by simp; omega), List.nil_append]; exact k1
        · intro q1 q2
          rw [k5 (by rw [q1]; rfl) q2, List.take_append_drop]
        · intro b o h
          have hcb := hch b (.inr (.inr ⟨o, h⟩))
          have ha : At w' b o (cs.take ta.size) := by
            intro j v hj
            have hjl : j < (cs.take ta.size).length := (List.getElem?_eq_some_iff.1 hj).1
            simp only [List.length_take] at hjl
            rw [hcb.1]
            · exact ((hl b o h).1.take) j v hj
            · intro ot h'
              rcases hbt b ot h' with ⟨o1, q1, q2, q3⟩ | q
              · rw [h] at q1
                simp only [Option.some.injEq, Prod.mk.injEq, true_and] at q1
                left; omega
              · exact absurd (by simp [q]) (hb b o h).1
          refine ha.append ?_
          have := k2 b (o + ta.size) (by rw [h]; rfl)
          rwa [List.length_take, Nat.min_eq_left (by omega)]
        · rw [List.perm_iff_count] at k3 ⊢
          intro c
          have := k3 c
          simp only [List.count_append] at this ⊢
          omega
        · intro q τq lq cq hk hq
          have e1 : (cs.take ta.size ++ cs3).take ta.size = cs.take ta.size := by rw [List.take_append_of_le_length (by simp; omega), List.take_take, Nat.min_self]
          have e2 : (cs.take ta.size ++ cs3).drop ta.size = cs3 := by rw [List.drop_append_of_le_length (by simp; omega), List.drop_of_length_le (by simp; omega), List.nil_append]
          cases q with
          | nil =>
            obtain ⟨rfl, rfl, rfl⟩ := Nav.root_iff.1 hq
            obtain ⟨_, _, e⟩ := Nav.root_iff.1 (k10 [] tb (loc.map fun q => (q.1, q.2 + ta.size)) (cs.drop ta.size) (by simpa [keepP, hasMem] using hk) (Nav.root_iff.2 ⟨rfl, rfl, rfl⟩))
            exact Nav.root_iff.2 ⟨rfl, rfl, by rw [e, List.take_append_drop]⟩
          | cons s' q =>
            cases s' <;> simp only [keepP] at hk <;> first | (cases hk; done) | skip
            · show Nav w' ta loc ((cs.take ta.size ++ cs3).take ta.size) q τq lq cq
              rw [e1]
              exact Nav.sm h1 hsm1 hq
            · show Nav w' tb (loc.map fun q => (q.1, q.2 + ta.size)) ((cs.take ta.size ++ cs3).drop ta.size) q τq lq cq
              rw [e2]
              exact k10 q τq lq cq hk hq
end Go.Fw
