/-
  Parts of the proof: Fw1, Fw2, Fw3, Fw4, Fw5, Fw6, Fw7, Fw8, Fw9, Fw10, Fw11, Fw12, Fw13, Fw14, Fw15: the framework (Fw), pure forms (Dn), plain laws (Pl, Th), calls of functions (Ok).
-/
import Derived.Laws.AppendOwn
import Derived.ArgAppend
import Derived.Laws.IdiomCopy
import Derived.Laws.Cells
import Derived.Laws.MakeOwn
import Derived.Calls
import Derived.Orders
import Derived.Laws.Entries

set_option linter.all false
section
namespace Go.Fw
inductive Md where
  | imm
  | bor
  deriving DecidableEq
inductive Ty where
  | int (k : IntKind)
  | bool
  | str
  | slc (m : Md) (t : Ty)
  | ptr (m : Md) (t : Ty)
  | osl (t : Ty)
  | optr (t : Ty)
  | st (t : Ty)
  | pr (a b : Ty)
  | nil
  | blk
  deriving DecidableEq
def Ty.size : Ty → Nat
  | .pr a b => a.size + b.size
  | .st t => t.size
  | .nil | .blk => 0
  | _ => 1
@[reducible] def Ty.den : Ty → Type
  | .int _ => Int
  | .bool => Bool
  | .str => ByteArray
  | .slc _ t => List t.den
  | .ptr _ t => Option t.den
  | .osl t => List t.den
  | .optr t => t.den
  | .st t => t.den
  | .pr a b => a.den × b.den
  | .nil => Unit
  | .blk => Unit
def At (w : World) (b o : Nat) (cs : List Value) : Prop := ∀ j v, cs[j]? = some v → w.cell? ⟨b, o + j, none⟩ = some v
def Fr (w : World) (b lo hi : Nat) : Prop := ∀ j, lo ≤ j → j < hi → (w.cell? ⟨b, j, none⟩).isSome = true ∧ w.frozen? ⟨b, j, none⟩ = false
def Sm (w w' : World) (b : Nat) : Prop := ∀ j, w'.cell? ⟨b, j, none⟩ = w.cell? ⟨b, j, none⟩ ∧ w'.frozen? ⟨b, j, none⟩ = w.frozen? ⟨b, j, none⟩
theorem Sm.refl (w : World) (b : Nat) : Sm w w b := fun _ => ⟨rfl, rfl⟩
theorem Sm.of_heap {w w' : World} {b : Nat} (h : w'.heap[b]? = w.heap[b]?) : Sm w w' b :=
  fun j => ⟨World.cell?_of_block (a := ⟨b, j, none⟩) h, World.frozen?_of_block (a := ⟨b, j, none⟩) h⟩
theorem At.sm {w w' : World} {b o : Nat} {cs : List Value} (h : At w b o cs) (hs : Sm w w' b) : At w' b o cs :=
  fun j v hj => by rw [(hs _).1]; exact h j v hj
theorem Fr.sm {w w' : World} {b lo hi : Nat} (h : Fr w b lo hi) (hs : Sm w w' b) : Fr w' b lo hi :=
  fun j h1 h2 => by rw [(hs _).1, (hs _).2]; exact h j h1 h2
def Rep (M : Md → Nat → Prop) (w : World) : (τ : Ty) → List Value → τ.den → List Nat → Prop
  | .int k, cs, n, fp => fp = [] ∧ cs = [.int k n]
  | .bool, cs, b, fp => fp = [] ∧ cs = [.bool b]
  | .str, cs, s, fp => fp = [] ∧ cs = [.string s]
  | .slc m t, cs, xs, fp => fp = [] ∧ ∃ a cap, cs = [.slice a xs.length cap] ∧ xs.length ≤ cap ∧ (a = none → cap = 0) ∧
      (xs = [] ∨ ∃ b o, a = some ⟨b, o, none⟩ ∧ M m b ∧ ∀ i x, xs[i]? = some x → ∃ ds, ds.length = t.size ∧ At w b (o + i * t.size) ds ∧ Rep M w t ds x [])
  | .ptr m t, cs, x, fp => fp = [] ∧ match x with
      | none => cs = [.pointer none]
      | some y => ∃ b o ds, cs = [.pointer (some ⟨b, o, none⟩)] ∧ M m b ∧ ds.length = t.size ∧ At w b o ds ∧ Rep M w t ds y []
  | .osl t, cs, xs, fp => ∃ a cap, cs = [.slice a xs.length cap] ∧
      ((a = none ∧ xs = [] ∧ cap = 0 ∧ fp = []) ∨ ∃ (b o : Nat) (fps : List (List Nat)), a = some ⟨b, o, none⟩ ∧ fp = b :: fps.flatten ∧ fps.length = xs.length ∧ xs.length ≤ cap ∧
        Fr w b o (o + cap * t.size) ∧ ∀ i x f, xs[i]? = some x → fps[i]? = some f → ∃ ds, ds.length = t.size ∧ At w b (o + i * t.size) ds ∧ Rep M w t ds x f)
  | .optr t, cs, y, fp => ∃ b o f ds, cs = [.pointer (some ⟨b, o, none⟩)] ∧ fp = b :: f ∧ ds.length = t.size ∧ At w b o ds ∧ Fr w b o (o + t.size) ∧ Rep M w t ds y f
  | .st t, cs, x, fp => Rep M w t cs x fp
  | .pr a b, cs, x, fp => ∃ f1 f2, fp = f1 ++ f2 ∧ Rep M w a (cs.take a.size) x.1 f1 ∧ Rep M w b (cs.drop a.size) x.2 f2
  | .nil, cs, _, fp => fp = [] ∧ cs = []
  | .blk, cs, _, _ => cs = []
theorem Rep.len {M : Md → Nat → Prop} {w : World} : ∀ {τ : Ty} {cs : List Value} {x : τ.den} {fp : List Nat}, Rep M w τ cs x fp → cs.length = τ.size
  | .int _, _, _, _, h => by rw [h.2]; rfl
  | .bool, _, _, _, h => by rw [h.2]; rfl
  | .str, _, _, _, h => by rw [h.2]; rfl
  | .slc _ _, _, _, _, h => by obtain ⟨_, a, cap, h, _⟩ := h; rw [h]; rfl
  | .ptr _ _, _, x, _, h => by
      obtain ⟨_, h⟩ := h
      cases x with
      | none => simp only at h; rw [h]; rfl
      | some y => obtain ⟨b, o, ds, h, _⟩ := h; rw [h]; rfl
  | .osl _, _, _, _, h => by obtain ⟨a, cap, h, _⟩ := h; rw [h]; rfl
  | .optr _, _, _, _, h => by obtain ⟨a, cap, f, ds, h, _⟩ := h; rw [h]; rfl
  | .st t, _, _, _, h => Rep.len (τ := t) h
  | .pr a b, cs, _, _, h => by
      obtain ⟨f1, f2, _, h1, h2⟩ := h
      have l1 := Rep.len (τ := a) h1
      have l2 := Rep.len (τ := b) h2
      simp only [List.length_take, List.length_drop] at l1 l2
      show cs.length = a.size + b.size
      omega
  | .nil, _, _, _, h => by rw [h.2]; rfl
  | .blk, _, _, _, h => by rw [show _ = [] from h]; rfl
theorem Rep.one {M : Md → Nat → Prop} {w : World} : ∀ {τ : Ty} {cs : List Value} {x : τ.den} {fp : List Nat}, Rep M w τ cs x fp → ∀ v ∈ cs, v.oneCell' = true
  | .int _, _, _, _, h => by rw [h.2]; simp [Value.oneCell']
  | .bool, _, _, _, h => by rw [h.2]; simp [Value.oneCell']
  | .str, _, _, _, h => by rw [h.2]; simp [Value.oneCell']
  | .slc _ _, _, _, _, h => by obtain ⟨_, a, cap, h, _⟩ := h; rw [h]; simp [Value.oneCell']
  | .ptr _ _, _, x, _, h => by
      obtain ⟨_, h⟩ := h
      cases x with
      | none => simp only at h; rw [h]; simp [Value.oneCell']
      | some y => obtain ⟨b, o, ds, h, _⟩ := h; rw [h]; simp [Value.oneCell']
  | .osl _, _, _, _, h => by obtain ⟨a, cap, h, _⟩ := h; rw [h]; simp [Value.oneCell']
  | .optr _, _, _, _, h => by obtain ⟨a, cap, f, ds, h, _⟩ := h; rw [h]; simp [Value.oneCell']
  | .st t, _, _, _, h => Rep.one (τ := t) h
  | .pr a b, cs, _, _, h => by
      obtain ⟨f1, f2, _, h1, h2⟩ := h
      have l1 := Rep.one (τ := a) h1
      have l2 := Rep.one (τ := b) h2
      intro v hv
      rw [← List.take_append_drop a.size cs] at hv
      rcases List.mem_append.1 hv with hv | hv
      · exact l1 v hv
      · exact l2 v hv
  | .nil, _, _, _, h => by rw [h.2]; simp
  | .blk, _, _, _, h => by rw [show _ = [] from h]; simp
theorem Rep.mono {M M' : Md → Nat → Prop} {w w' : World} (hM : ∀ m b, M m b → M' m b ∧ Sm w w' b) :
    ∀ {τ : Ty} {cs : List Value} {x : τ.den} {fp : List Nat}, Rep M w τ cs x fp → (∀ b ∈ fp, Sm w w' b) → Rep M' w' τ cs x fp
  | .int _, _, _, _, h, _ => h
  | .bool, _, _, _, h, _ => h
  | .str, _, _, _, h, _ => h
  | .slc m t, _, xs, _, h, _ => by
      obtain ⟨h0, a, cap, h1, h2, h3, h4⟩ := h
      refine ⟨h0, a, cap, h1, h2, h3, h4.imp id ?_⟩
      rintro ⟨b, o, ha, hb, hx⟩
      refine ⟨b, o, ha, (hM m b hb).1, fun i x hi => ?_⟩
      obtain ⟨ds, d1, d2, d3⟩ := hx i x hi
      exact ⟨ds, d1, d2.sm (hM m b hb).2, Rep.mono hM d3 (by simp)⟩
  | .ptr m t, _, x, _, h, _ => by
      obtain ⟨h0, h⟩ := h
      refine ⟨h0, ?_⟩
      cases x with
      | none => exact h
      | some y =>
        obtain ⟨b, o, ds, h1, h2, h3, h4, h5⟩ := h
        exact ⟨b, o, ds, h1, (hM m b h2).1, h3, h4.sm (hM m b h2).2, Rep.mono hM h5 (by simp)⟩
  | .osl t, _, xs, fp, h, hf => by
      obtain ⟨a, cap, h1, h2⟩ := h
      refine ⟨a, cap, h1, h2.imp id ?_⟩
      rintro ⟨b, o, fps, ha, hfp, hl, hc, hfr, hx⟩
      have hb : Sm w w' b := hf b (by rw [hfp]; simp)
      refine ⟨b, o, fps, ha, hfp, hl, hc, hfr.sm hb, fun i x f hi hfi => ?_⟩
      obtain ⟨ds, d1, d2, d3⟩ := hx i x f hi hfi
      refine ⟨ds, d1, d2.sm hb, Rep.mono hM d3 (fun c hc => hf c ?_)⟩
      rw [hfp]
      exact List.mem_cons_of_mem _ (List.mem_flatten.2 ⟨f, List.mem_of_getElem? hfi, hc⟩)
  | .optr t, _, _, _, h, hf => by
      obtain ⟨b, o, f, ds, h1, h2, h3, h4, h5, h6⟩ := h
      have hb : Sm w w' b := hf b (by rw [h2]; simp)
      exact ⟨b, o, f, ds, h1, h2, h3, h4.sm hb, h5.sm hb, Rep.mono hM h6 (fun c hc => hf c (by rw [h2]; exact List.mem_cons_of_mem _ hc))⟩
  | .st t, _, _, _, h, hf => Rep.mono (τ := t) hM h hf
  | .pr a b, cs, _, _, h, hf => by
      obtain ⟨f1, f2, hfp, h1, h2⟩ := h
      exact ⟨f1, f2, hfp, Rep.mono (τ := a) hM h1 (fun c hc => hf c (by rw [hfp]; exact List.mem_append_left _ hc)),
        Rep.mono (τ := b) hM h2 (fun c hc => hf c (by rw [hfp]; exact List.mem_append_right _ hc))⟩
  | .nil, _, _, _, h, _ => h
  | .blk, _, _, _, h, _ => h
def Ty.nb : Ty → Bool
  | .blk => false
  | .slc _ t | .ptr _ t | .osl t | .optr t | .st t => t.nb
  | .pr a b => a.nb && b.nb
  | _ => true
theorem Rep.uniq {M : Md → Nat → Prop} {w : World} : ∀ {τ : Ty} {cs : List Value} {x y : τ.den} {f g : List Nat}, τ.nb = true → Rep M w τ cs x f → Rep M w τ cs y g → f = g
  | .int _, _, _, _, _, _, _, h, h' => h.1.trans h'.1.symm
  | .bool, _, _, _, _, _, _, h, h' => h.1.trans h'.1.symm
  | .str, _, _, _, _, _, _, h, h' => h.1.trans h'.1.symm
  | .slc _ _, _, _, _, _, _, _, h, h' => h.1.trans h'.1.symm
  | .ptr _ _, _, _, _, _, _, _, h, h' => h.1.trans h'.1.symm
  | .nil, _, _, _, _, _, _, h, h' => h.1.trans h'.1.symm
  | .blk, _, _, _, _, _, hb, _, _ => by cases hb
  | .st t, _, _, _, _, _, hb, h, h' => Rep.uniq (τ := t) hb h h'
  | .pr a b, _, _, _, _, _, hb, h, h' => by
      simp only [Ty.nb, Bool.and_eq_true] at hb
      obtain ⟨f1, f2, rfl, h1, h2⟩ := h
      obtain ⟨g1, g2, rfl, h3, h4⟩ := h'
      rw [Rep.uniq (τ := a) hb.1 h1 h3, Rep.uniq (τ := b) hb.2 h2 h4]
  | .optr t, _, _, _, _, _, hb, h, h' => by
      obtain ⟨b, o, f, ds, h1, rfl, h3, h4, _, h6⟩ := h
      obtain ⟨b', o', f', ds', h1', rfl, h3', h4', _, h6'⟩ := h'
      rw [h1] at h1'
      simp only [List.cons.injEq, Value.pointer.injEq, Option.some.injEq, Addr.mk.injEq, and_true] at h1'
      obtain ⟨rfl, rfl⟩ := h1'
      obtain rfl : ds = ds' := by
        apply List.ext_getElem?
        intro j
        rcases Nat.lt_or_ge j ds.length with hj | hj
        · have q1 := h4 j ds[j] (by simp [hj])
          have q2 := h4' j (ds'[j]'(by omega)) (by simp)
          rw [q1] at q2
          simp only [Option.some.injEq] at q2
          rw [List.getElem?_eq_getElem hj, List.getElem?_eq_getElem (by omega), q2]
        · rw [List.getElem?_eq_none hj, List.getElem?_eq_none (by omega)]
      rw [Rep.uniq (τ := t) hb h6 h6']
  | .osl t, _, x, y, _, _, hb, h, h' => by
      obtain ⟨a, cap, h1, h2⟩ := h
      obtain ⟨a', cap', h1', h2'⟩ := h'
      rw [h1] at h1'
      simp only [List.cons.injEq, Value.slice.injEq, and_true] at h1'
      obtain ⟨rfl, hl, rfl⟩ := h1'
      rcases h2 with ⟨rfl, rfl, rfl, rfl⟩ | ⟨b, o, fps, rfl, rfl, q1, q2, q3, q4⟩
      · rcases h2' with ⟨_, rfl, _, rfl⟩ | ⟨b, o, fps, h0, _⟩
        · rfl
        · cases h0
      · rcases h2' with ⟨h0, _⟩ | ⟨b', o', fps', h0, rfl, q1', q2', q3', q4'⟩
        · cases h0
        · simp only [Option.some.injEq, Addr.mk.injEq, and_true] at h0
          obtain ⟨rfl, rfl⟩ := h0
          have : fps = fps' := by
            apply List.ext_getElem?
            intro j
            rcases Nat.lt_or_ge j x.length with hj | hj
            · have e1 : fps[j]? = some (fps[j]'(by omega)) := List.getElem?_eq_getElem (by omega)
              have e2 : fps'[j]? = some (fps'[j]'(by omega)) := List.getElem?_eq_getElem (by omega)
              obtain ⟨ds, d1, d2, d3⟩ := q4 j x[j] _ (by simp [hj]) e1
              obtain ⟨ds', d1', d2', d3'⟩ := q4' j (y[j]'(by omega)) _ (by simp) e2
              obtain rfl : ds = ds' := by
                apply List.ext_getElem?
                intro k
                rcases Nat.lt_or_ge k ds.length with hk | hk
                · have r1 := d2 k ds[k] (by simp [hk])
                  have r2 := d2' k (ds'[k]'(by omega)) (by simp)
                  rw [r1] at r2
                  simp only [Option.some.injEq] at r2
                  rw [List.getElem?_eq_getElem hk, List.getElem?_eq_getElem (by omega), r2]
                · rw [List.getElem?_eq_none hk, List.getElem?_eq_none (by omega)]
              rw [e1, e2, Rep.uniq (τ := t) hb d3 d3']
            · rw [List.getElem?_eq_none (by omega), List.getElem?_eq_none (by omega)]
          rw [this]
inductive Step where
  | idx (i : Nat)
  | deref
  | unst
  | fst
  | snd
  deriving DecidableEq
def GetP : (τ : Ty) → τ.den → List Step → (τ' : Ty) → τ'.den → Prop
  | τ, x, [], τ', y => ∃ h : τ = τ', h ▸ x = y
  | .osl t, xs, .idx i :: p, τ', y => ∃ e, xs[i]? = some e ∧ GetP t e p τ' y
  | .optr t, x, .deref :: p, τ', y => GetP t x p τ' y
  | .st t, x, .unst :: p, τ', y => GetP t x p τ' y
  | .pr a _, x, .fst :: p, τ', y => GetP a x.1 p τ' y
  | .pr _ b, x, .snd :: p, τ', y => GetP b x.2 p τ' y
  | _, _, _, _, _ => False
def SetP : (τ : Ty) → τ.den → List Step → (τ' : Ty) → τ'.den → τ.den → Prop
  | τ, _, [], τ', y, x' => ∃ h : τ = τ', h ▸ x' = y
  | .osl t, xs, .idx i :: p, τ', y, xs' => ∃ e e', xs[i]? = some e ∧ SetP t e p τ' y e' ∧ xs' = xs.set i e'
  | .optr t, x, .deref :: p, τ', y, x' => SetP t x p τ' y x'
  | .st t, x, .unst :: p, τ', y, x' => SetP t x p τ' y x'
  | .pr a _, x, .fst :: p, τ', y, x' => ∃ e', SetP a x.1 p τ' y e' ∧ x' = (e', x.2)
  | .pr _ b, x, .snd :: p, τ', y, x' => ∃ e', SetP b x.2 p τ' y e' ∧ x' = (x.1, e')
  | _, _, _, _, _, _ => False
theorem GetP.nil_iff {τ : Ty} {x : τ.den} {τ' : Ty} {y : τ'.den} : GetP τ x [] τ' y ↔ ∃ h : τ = τ', h ▸ x = y := by cases τ <;> exact Iff.rfl
theorem SetP.nil_iff {τ : Ty} {x x' : τ.den} {τ' : Ty} {y : τ'.den} : SetP τ x [] τ' y x' ↔ ∃ h : τ = τ', h ▸ x' = y := by cases τ <;> exact Iff.rfl
abbrev Loc := Option (Nat × Nat)
def Nav (w : World) : (τ : Ty) → Loc → List Value → List Step → (τ' : Ty) → Loc → List Value → Prop
  | τ, loc, cs, [], τ', loc', cs' => τ = τ' ∧ loc = loc' ∧ cs = cs'
  | .osl t, _, cs, .idx i :: p, τ', loc', cs' => ∃ b o len cap ds, cs = [.slice (some ⟨b, o, none⟩) len cap] ∧ i < len ∧ ds.length = t.size ∧
      At w b (o + i * t.size) ds ∧ Nav w t (some (b, o + i * t.size)) ds p τ' loc' cs'
  | .optr t, _, cs, .deref :: p, τ', loc', cs' => ∃ b o ds, cs = [.pointer (some ⟨b, o, none⟩)] ∧ ds.length = t.size ∧ At w b o ds ∧ Nav w t (some (b, o)) ds p τ' loc' cs'
  | .st t, loc, cs, .unst :: p, τ', loc', cs' => Nav w t loc cs p τ' loc' cs'
  | .pr a _, loc, cs, .fst :: p, τ', loc', cs' => Nav w a loc (cs.take a.size) p τ' loc' cs'
  | .pr a b, loc, cs, .snd :: p, τ', loc', cs' => Nav w b (loc.map fun q => (q.1, q.2 + a.size)) (cs.drop a.size) p τ' loc' cs'
  | _, _, _, _, _, _, _ => False
theorem At.eq {w : World} {b o : Nat} {cs ds : List Value} (h : At w b o cs) (h' : At w b o ds) (hl : cs.length = ds.length) : cs = ds := by
  apply List.ext_getElem? 
  intro j
  rcases Nat.lt_or_ge j cs.length with hj | hj
  · have h1 := h j cs[j] (by simp [hj])
    have h2 := h' j (ds[j]'(by omega)) (by simp)
    rw [h1] at h2
    simp only [Option.some.injEq] at h2
    rw [List.getElem?_eq_getElem hj, List.getElem?_eq_getElem (by omega), h2]
  · rw [List.getElem?_eq_none hj, List.getElem?_eq_none (by omega)]
theorem Nav.det {w : World} : ∀ {p : List Step} {τ : Ty} {loc : Loc} {cs : List Value} {t1 t2 : Ty} {l1 l2 : Loc} {c1 c2 : List Value},
    Nav w τ loc cs p t1 l1 c1 → Nav w τ loc cs p t2 l2 c2 → t1 = t2 ∧ l1 = l2 ∧ c1 = c2
  | [], τ, loc, cs, _, _, _, _, _, _, h1, h2 => by
      simp only [Nav] at h1 h2
      exact ⟨h1.1.symm.trans h2.1, h1.2.1.symm.trans h2.2.1, h1.2.2.symm.trans h2.2.2⟩
  | s :: p, τ, loc, cs, _, _, _, _, _, _, h1, h2 => by
      cases τ <;> cases s <;> simp only [Nav] at h1 h2
      case osl.idx t i =>
        obtain ⟨b, o, len, cap, ds, e1, _, l1, a1, n1⟩ := h1
        obtain ⟨b', o', len', cap', ds', e2, _, l2, a2, n2⟩ := h2
        rw [e1] at e2
        simp only [List.cons.injEq, Value.slice.injEq, Option.some.injEq, Addr.mk.injEq, and_true] at e2
        obtain ⟨⟨rfl, rfl⟩, rfl, rfl⟩ := e2
        obtain rfl := a1.eq a2 (by omega)
        exact Nav.det n1 n2
      case optr.deref t =>
        obtain ⟨b, o, ds, e1, l1, a1, n1⟩ := h1
        obtain ⟨b', o', ds', e2, l2, a2, n2⟩ := h2
        rw [e1] at e2
        simp only [List.cons.injEq, Value.pointer.injEq, Option.some.injEq, Addr.mk.injEq, and_true] at e2
        obtain ⟨rfl, rfl⟩ := e2
        obtain rfl := a1.eq a2 (by omega)
        exact Nav.det n1 n2
      case st.unst t => exact Nav.det h1 h2
      case pr.fst a b => exact Nav.det h1 h2
      case pr.snd a b => exact Nav.det h1 h2
def Chg (w w' : World) (loc : Loc) (n : Nat) (b : Nat) : Prop :=
  (∀ j, (∀ o, loc = some (b, o) → j < o ∨ o + n ≤ j) → w'.cell? ⟨b, j, none⟩ = w.cell? ⟨b, j, none⟩) ∧
  (∀ j, w'.frozen? ⟨b, j, none⟩ = w.frozen? ⟨b, j, none⟩) ∧ ∀ j, (w'.cell? ⟨b, j, none⟩).isSome = (w.cell? ⟨b, j, none⟩).isSome
theorem Chg.sm {w w' : World} {loc : Loc} {n b : Nat} (h : Chg w w' loc n b) (hl : ∀ o, loc ≠ some (b, o)) : Sm w w' b :=
  fun j => ⟨h.1 j (fun o ho => absurd ho (hl o)), h.2.1 j⟩
theorem Chg.fr {w w' : World} {loc : Loc} {n b lo hi : Nat} (h : Chg w w' loc n b) (hf : Fr w b lo hi) : Fr w' b lo hi :=
  fun j h1 h2 => by rw [h.2.1, h.2.2]; exact hf j h1 h2
def LocOk (w : World) (loc : Loc) (cs : List Value) (n : Nat) : Prop := ∀ b o, loc = some (b, o) → At w b o cs ∧ Fr w b o (o + n)
theorem At.take {w : World} {b o n : Nat} {cs : List Value} (h : At w b o cs) : At w b o (cs.take n) := fun j v hj => by
  rw [List.getElem?_take] at hj
  split at hj
  · exact h j v hj
  · cases hj
theorem At.drop {w : World} {b o n : Nat} {cs : List Value} (h : At w b o cs) : At w b (o + n) (cs.drop n) := fun j v hj => by
  rw [List.getElem?_drop] at hj
  have := h (n + j) v hj
  rwa [← Nat.add_assoc] at this
theorem At.append {w : World} {b o : Nat} {cs ds : List Value} (h : At w b o cs) (h' : At w b (o + cs.length) ds) : At w b o (cs ++ ds) := fun j v hj => by
  rw [List.getElem?_append] at hj
  split at hj
  · exact h j v hj
  · have := h' _ v hj
    rwa [show o + cs.length + (j - cs.length) = o + j by omega] at this
theorem split_at {α : Type} {l : List α} {i : Nat} {x : α} (h : l[i]? = some x) : ∃ pre post, l = pre ++ x :: post ∧ pre.length = i := by
  obtain ⟨hi, rfl⟩ := List.getElem?_eq_some_iff.1 h
  exact ⟨l.take i, l.drop (i + 1), by rw [List.getElem_cons_drop, List.take_append_drop], by simp; omega⟩
theorem Nav.sm {M : Md → Nat → Prop} {w w' : World} : ∀ {p : List Step} {τ : Ty} {loc : Loc} {cs : List Value} {x : τ.den} {fp : List Nat} {τ' : Ty} {loc' : Loc} {cs' : List Value},
    Rep M w τ cs x fp → (∀ b ∈ fp, Sm w w' b) → Nav w τ loc cs p τ' loc' cs' → Nav w' τ loc cs p τ' loc' cs'
  | [], τ, _, _, _, _, _, _, _, _, _, h => by cases τ <;> exact h
  | s :: p, τ, loc, cs, x, fp, τ', loc', cs', hr, hs, h => by
      cases τ <;> cases s <;> simp only [Nav] at h
      case osl.idx t i =>
        obtain ⟨b, o, len, cap, ds, rfl, hi, hl, ha, hn⟩ := h
        obtain ⟨a, cap', h1, h2⟩ := hr
        simp only [List.cons.injEq, Value.slice.injEq, and_true] at h1
        obtain ⟨rfl, rfl, rfl⟩ := h1
        rcases h2 with ⟨h0, _⟩ | ⟨b', o', fps, h0, rfl, q1, q2, q3, q4⟩
        · cases h0
        · simp only [Option.some.injEq, Addr.mk.injEq, and_true] at h0
          obtain ⟨rfl, rfl⟩ := h0
          obtain ⟨ds', d1, d2, d3⟩ := q4 i x[i] (fps[i]'(by omega)) (by simp [hi]) (by simp)
          obtain rfl := ha.eq d2 (by omega)
          exact ⟨b, o, _, cap, ds, rfl, hi, hl, ha.sm (hs b (by simp)), Nav.sm d3 (fun c hc => hs c (List.mem_cons_of_mem _ (List.mem_flatten.2 ⟨_, List.getElem_mem (by omega), hc⟩))) hn⟩
      case optr.deref t =>
        obtain ⟨b, o, ds, rfl, hl, ha, hn⟩ := h
        obtain ⟨b', o', f', ds', h1', rfl, h3', h4', _, h6'⟩ := hr
        simp only [List.cons.injEq, Value.pointer.injEq, Option.some.injEq, Addr.mk.injEq, and_true] at h1'
        obtain ⟨rfl, rfl⟩ := h1'
        obtain rfl := ha.eq h4' (by omega)
        exact ⟨b, o, ds, rfl, hl, ha.sm (hs b (by simp)), Nav.sm h6' (fun c hc => hs c (by simp [hc])) hn⟩
      case st.unst t => exact Nav.sm (τ := t) hr hs h
      case pr.fst a b =>
        obtain ⟨f1, f2, rfl, h1, h2⟩ := hr
        exact Nav.sm (τ := a) h1 (fun c hc => hs c (by simp [hc])) h
      case pr.snd a b =>
        obtain ⟨f1, f2, rfl, h1, h2⟩ := hr
        exact Nav.sm (τ := b) h2 (fun c hc => hs c (by simp [hc])) h
def hasMem : List Step → Bool
  | [] => false
  | .idx _ :: _ => true
  | .deref :: _ => true
  | _ :: p => hasMem p
def keepP : List Step → List Step → Bool
  | p, [] => hasMem p
  | .idx _ :: p, .idx _ :: q => keepP p q
  | .deref :: p, .deref :: q => keepP p q
  | .unst :: p, .unst :: q => keepP p q
  | .fst :: p, .fst :: q => keepP p q
  | .snd :: p, .snd :: q => keepP p q
  | .fst :: _, .snd :: _ => true
  | .snd :: _, .fst :: _ => true
  | _, _ => false
theorem Nav.root_iff {w : World} {τ τ' : Ty} {l l' : Loc} {cs cs' : List Value} : Nav w τ l cs [] τ' l' cs' ↔ τ = τ' ∧ l = l' ∧ cs = cs' := by cases τ <;> exact Iff.rfl
theorem focus {M : Md → Nat → Prop} {w : World} : ∀ (p : List Step) {τ : Ty} {loc : Loc} {cs : List Value} {x : τ.den} {fp : List Nat} {τ' : Ty} {y : τ'.den},
    Rep M w τ cs x fp → LocOk w loc cs τ.size → fp.Nodup → (∀ b o, loc = some (b, o) → b ∉ fp ∧ ∀ m, ¬ M m b) → (∀ b ∈ fp, ∀ m, ¬ M m b) → GetP τ x p τ' y →
    ∃ loc' cs' fp' rest, Nav w τ loc cs p τ' loc' cs' ∧ Rep M w τ' cs' y fp' ∧ LocOk w loc' cs' τ'.size ∧ fp.Perm (fp' ++ rest) ∧
      (∀ bt ot, loc' = some (bt, ot) → (∃ o, loc = some (bt, o) ∧ o ≤ ot ∧ ot + τ'.size ≤ o + τ.size) ∨ bt ∈ rest) ∧
      (∀ (w' : World) (M' : Md → Nat → Prop) (cs2 : List Value) (y2 : τ'.den) (fp2 : List Nat) (x2 : τ.den),
        (∀ m b, M m b → M' m b) → (∀ b, (∃ m, M m b) ∨ b ∈ rest ∨ (∃ o, loc = some (b, o)) → Chg w w' loc' τ'.size b) →
        Rep M' w' τ' cs2 y2 fp2 → (loc' = none → p ≠ [] → cs2 = cs') → (∀ b o, loc' = some (b, o) → At w' b o cs2) → SetP τ x p τ' y2 x2 →
        ∃ cs3 fp3, Rep M' w' τ cs3 x2 fp3 ∧ (p = [] → cs3 = cs2) ∧ (loc = none → (loc' ≠ none ∨ cs2 = cs') → cs3 = cs) ∧ (∀ b o, loc = some (b, o) → At w' b o cs3) ∧ fp3.Perm (fp2 ++ rest) ∧ Nav w' τ loc cs3 p τ' loc' cs2 ∧
          ∀ (q : List Step) (τq : Ty) (lq : Loc) (cq : List Value), keepP p q = true → Nav w τ loc cs q τq lq cq → Nav w' τ loc cs3 q τq lq cq) := by
  intro p
  induction p with
  | nil =>
    intro τ loc cs x fp τ' y hr hl hn hb hm hg
    obtain ⟨rfl, rfl⟩ := GetP.nil_iff.1 hg
    refine ⟨loc, cs, fp, [], (by cases τ <;> exact ⟨rfl, rfl, rfl⟩), hr, hl, by simp, fun bt ot h => .inl ⟨ot, h, by omega, by omega⟩, ?_⟩
    intro w' M' cs2 y2 fp2 x2 _ _ hr2 _ h2 hs
    obtain ⟨_, rfl⟩ := SetP.nil_iff.1 hs
    exact ⟨cs2, fp2, hr2, fun _ => rfl, fun h0 h => h.resolve_left (fun q => q h0), h2, by simp, (by cases τ <;> exact ⟨rfl, rfl, rfl⟩), fun q _ _ _ hk => by cases q <;> simp [keepP, hasMem] at hk⟩
  | cons s p ih =>
    intro τ loc cs x fp τ' y hr hl hn hb hm hg
    cases τ <;> cases s <;> simp only [GetP] at hg
    case osl.idx t i =>
      obtain ⟨e, he, hg⟩ := hg
      obtain ⟨a, cap, rfl, hr⟩ := hr
      rcases hr with ⟨_, rfl, _⟩ | ⟨b, o, fps, rfl, rfl, hlen, hcap, hfr, hx⟩
      · simp at he
      have hi : i < x.length := (List.getElem?_eq_some_iff.1 he).1
      obtain ⟨f, hf⟩ : ∃ f, fps[i]? = some f := ⟨fps[i], List.getElem?_eq_getElem (by omega)⟩
      obtain ⟨ds, hd1, hd2, hd3⟩ := hx i e f he hf
      obtain ⟨pre, post, hfps, hpre⟩ := split_at hf
      have hin : ∀ k, k < x.length → o + k * t.size + t.size ≤ o + cap * t.size := fun k hk => by
        have : (k + 1) * t.size ≤ cap * t.size := Nat.mul_le_mul_right _ (by omega)
        rw [Nat.add_mul, Nat.one_mul] at this
        omega
      have hlo : LocOk w (some (b, o + i * t.size)) ds t.size := by
        rintro b' o' h
        simp only [Option.some.injEq, Prod.mk.injEq] at h
        obtain ⟨rfl, rfl⟩ := h
        exact ⟨hd2, fun j h1 h2 => hfr j (by omega) (by have := hin i hi; omega)⟩
      have hnd := hn
      rw [hfps] at hnd
      simp only [List.flatten_append, List.flatten_cons, List.nodup_cons, List.nodup_append, List.mem_append, not_or] at hnd
      obtain ⟨⟨hb1, hb2, hb3⟩, hn1, ⟨hn2, hn3, hn4⟩, hn5⟩ := hnd
      obtain ⟨loc', cs', fp', rest, g1, g2, g3, g4, g5, g6⟩ := ih (loc := some (b, o + i * t.size)) hd3 hlo hn2
        (by rintro b' o' h; simp only [Option.some.injEq, Prod.mk.injEq] at h; obtain ⟨rfl, rfl⟩ := h; exact ⟨hb2, hm b (by simp)⟩)
        (fun c hc => hm c (by rw [hfps]; simp [hc])) hg
      refine ⟨loc', cs', fp', b :: (pre.flatten ++ (rest ++ post.flatten)), ⟨b, o, _, cap, ds, rfl, hi, hd1, hd2, g1⟩, g2, g3, ?_, ?_, ?_⟩
      · rw [hfps]
        simp only [List.flatten_append, List.flatten_cons]
        rw [List.perm_iff_count] at g4 ⊢
        intro c
        have := g4 c
        simp only [List.count_append, List.count_cons] at this ⊢
        omega
      · intro bt ot h
        right
        rcases g5 bt ot h with ⟨o', h1, _⟩ | h1
        · simp only [Option.some.injEq, Prod.mk.injEq] at h1
          rw [h1.1]; simp
        · simp [h1]
      · intro w' M' cs2 y2 fp2 x2 hMM hch hr2 hnone hat hs
        simp only [SetP] at hs
        obtain ⟨e0, e', he0, hs, rfl⟩ := hs
        obtain rfl : e0 = e := by rw [he] at he0; exact (Option.some.inj he0).symm
        obtain ⟨cs3, fp3, k1, _, _, k2, k3, k9, k10⟩ := g6 w' M' cs2 y2 fp2 e' hMM
          (by
            rintro c (h | h | ⟨o', h⟩)
            · exact hch c (.inl h)
            · exact hch c (.inr (.inl (by simp [h])))
            · simp only [Option.some.injEq, Prod.mk.injEq] at h
              exact hch c (.inr (.inl (by rw [← h.1]; simp)))) hr2
          (by
            intro h0 hp
            exact hnone h0 (by simp)) hat hs
        have hbt : ∀ bt ot, loc' = some (bt, ot) → (bt = b ∧ o + i * t.size ≤ ot ∧ ot + τ'.size ≤ o + i * t.size + t.size) ∨ bt ∈ f := by
          intro bt ot h
          rcases g5 bt ot h with ⟨o', h1, h2, h3⟩ | h1
          · simp only [Option.some.injEq, Prod.mk.injEq] at h1
            obtain ⟨rfl, rfl⟩ := h1
            exact .inl ⟨rfl, h2, h3⟩
          · exact .inr (g4.mem_iff.2 (by simp [h1]))
        have hcb := hch b (.inr (.inl (by simp)))
        have hMsm : ∀ m c, M m c → M' m c ∧ Sm w w' c := fun m c hc => ⟨hMM m c hc, (hch c (.inl ⟨m, hc⟩)).sm (fun o' h => by
          rcases hbt c o' h with ⟨rfl, _⟩ | h1
          · exact hm c (by simp) m hc
          · exact hm c (by rw [hfps]; simp [h1]) m hc)⟩
        have hoth : ∀ (k : Nat) (z : t.den) (g : List Nat), k ≠ i → x[k]? = some z → fps[k]? = some g → ∀ dk : List Value, dk.length = t.size → At w b (o + k * t.size) dk → At w' b (o + k * t.size) dk ∧ ∀ c ∈ g, Sm w w' c := by
          intro k z g hki hk hg' dk m1 m2
          have hkx : k < x.length := (List.getElem?_eq_some_iff.1 hk).1
          have hgn : ∀ c ∈ g, c ∈ pre.flatten ∨ c ∈ post.flatten := by
            intro c hc
            rw [hfps] at hg'
            rcases Nat.lt_or_ge k pre.length with h | h
            · rw [List.getElem?_append_left h] at hg'
              exact .inl (List.mem_flatten.2 ⟨g, List.mem_of_getElem? hg', hc⟩)
            · rw [List.getElem?_append_right h] at hg'
              obtain ⟨q, hq⟩ : ∃ q, k - pre.length = q + 1 := ⟨k - pre.length - 1, by omega⟩
              rw [hq] at hg'
              simp only [List.getElem?_cons_succ] at hg'
              exact .inr (List.mem_flatten.2 ⟨g, List.mem_of_getElem? hg', hc⟩)
          refine ⟨?_, ?_⟩
          · intro j v hj
            have hjl : j < dk.length := (List.getElem?_eq_some_iff.1 hj).1
            rw [hcb.1]
            · exact m2 j v hj
            · intro ot h
              rcases hbt b ot h with ⟨_, h1, h2⟩ | h1
              · rcases Nat.lt_or_gt_of_ne hki with hlt | hgt
                · left
                  have : (k + 1) * t.size ≤ i * t.size := Nat.mul_le_mul_right _ (by omega)
                  rw [Nat.add_mul, Nat.one_mul] at this
                  omega
                · right
                  have : (i + 1) * t.size ≤ k * t.size := Nat.mul_le_mul_right _ (by omega)
                  rw [Nat.add_mul, Nat.one_mul] at this
                  omega
              · exact absurd h1 hb2
          · intro c hc
            refine (hch c (.inr (.inl ?_))).sm ?_
            · rcases hgn c hc with h | h <;> simp [h]
            · intro ot h
              rcases hbt c ot h with ⟨rfl, _⟩ | h1
              · rcases hgn c hc with h | h
                · exact hb1 h
                · exact hb3 h
              · rcases hgn c hc with h | h
                · exact hn5 c h c (.inl h1) rfl
                · exact hn4 c h1 c h rfl
        refine ⟨[.slice (some ⟨b, o, none⟩) x.length cap], b :: (pre ++ fp3 :: post).flatten, ⟨some ⟨b, o, none⟩, cap, by simp, .inr ⟨b, o, pre ++ fp3 :: post, rfl, rfl, ?_, by simpa using hcap, hcb.fr hfr, ?_⟩⟩,
          by simp, fun _ _ => rfl, ?_, ?_, ⟨b, o, _, cap, cs3, rfl, hi, by rw [k1.len], k2 b _ rfl, k9⟩, ?_⟩
        · rw [hfps] at hlen; simpa using hlen
        · intro k z g hk hg
          by_cases hki : k = i
          · subst hki
            rw [List.getElem?_set_self hi] at hk
            obtain rfl := Option.some.inj hk
            rw [List.getElem?_append_right (by omega), hpre, Nat.sub_self] at hg
            simp only [List.getElem?_cons_zero, Option.some.injEq] at hg
            subst hg
            exact ⟨cs3, by rw [k1.len], k2 b _ rfl, k1⟩
          · rw [List.getElem?_set_ne (fun h => hki h.symm)] at hk
            have hg' : fps[k]? = some g := by
              rw [hfps]
              rcases Nat.lt_or_ge k pre.length with h | h
              · rw [List.getElem?_append_left h] at hg ⊢; exact hg
              · rw [List.getElem?_append_right h] at hg ⊢
                obtain ⟨q, hq⟩ : ∃ q, k - pre.length = q + 1 := ⟨k - pre.length - 1, by omega⟩
                rw [hq] at hg ⊢
                simpa using hg
            obtain ⟨dk, m1, m2, m3⟩ := hx k z g hk hg'
            obtain ⟨n1, n2⟩ := hoth k z g hki hk hg' dk m1 m2
            exact ⟨dk, m1, n1, m3.mono hMsm n2⟩
        · intro b' o' h
          have hb' := (hb b' o' h).1
          refine ((hl b' o' h).1).sm ((hch b' (.inr (.inr ⟨o', h⟩))).sm ?_)
          intro ot h'
          rcases hbt b' ot h' with ⟨rfl, _⟩ | h1
          · exact hb' (by simp)
          · exact hb' (by rw [hfps]; simp [h1])
        · rw [List.perm_iff_count] at k3 ⊢
          intro c
          have := k3 c
          simp only [List.flatten_append, List.flatten_cons, List.count_append, List.count_cons] at this ⊢
          omega
        · intro q τq lq cq hk hq
          cases q with
          | nil => exact hq
          | cons s' q =>
            cases s' <;> simp only [keepP] at hk <;> first | (cases hk; done) | skip
            rename_i j
            obtain ⟨b', o', len', cap', dj, h1, h2, h3, h4, h5⟩ := hq
            simp only [List.cons.injEq, Value.slice.injEq, Option.some.injEq, Addr.mk.injEq, and_true] at h1
            obtain ⟨⟨rfl, rfl⟩, rfl, rfl⟩ := h1
            by_cases hji : j = i
            · subst hji
              obtain rfl := h4.eq hd2 (by omega)
              exact ⟨b, o, _, cap, cs3, rfl, h2, k1.len, k2 b _ rfl, k10 q τq lq cq hk h5⟩
            · have hz : x[j]? = some x[j] := List.getElem?_eq_getElem h2
              have hgj : fps[j]? = some (fps[j]'(by omega)) := List.getElem?_eq_getElem _
              obtain ⟨dk, m1, m2, m3⟩ := hx j _ _ hz hgj
              obtain rfl := h4.eq m2 (by omega)
              obtain ⟨n1, n2⟩ := hoth j _ _ hji hz hgj dj h3 h4
              exact ⟨b, o, _, cap, dj, rfl, h2, h3, n1, Nav.sm m3 n2 h5⟩
    case optr.deref t =>
      obtain ⟨b, o, f, ds, rfl, rfl, hd1, hd2, hfr, hd3⟩ := hr
      simp only [List.nodup_cons] at hn
      obtain ⟨hbf, hnf⟩ := hn
      have hlo : LocOk w (some (b, o)) ds t.size := by
        rintro b' o' h
        simp only [Option.some.injEq, Prod.mk.injEq] at h
        obtain ⟨rfl, rfl⟩ := h
        exact ⟨hd2, hfr⟩
      obtain ⟨loc', cs', fp', rest, g1, g2, g3, g4, g5, g6⟩ := ih (loc := some (b, o)) hd3 hlo hnf
        (by rintro b' o' h; simp only [Option.some.injEq, Prod.mk.injEq] at h; obtain ⟨rfl, rfl⟩ := h; exact ⟨hbf, hm b (by simp)⟩)
        (fun c hc => hm c (by simp [hc])) hg
      refine ⟨loc', cs', fp', b :: rest, ⟨b, o, ds, rfl, hd1, hd2, g1⟩, g2, g3, ?_, ?_, ?_⟩
      · rw [List.perm_iff_count] at g4 ⊢
        intro c
        have := g4 c
        simp only [List.count_append, List.count_cons] at this ⊢
        omega
      · intro bt ot h
        right
        rcases g5 bt ot h with ⟨o', h1, _⟩ | h1
        · simp only [Option.some.injEq, Prod.mk.injEq] at h1
          rw [h1.1]; simp
        · simp [h1]
      · intro w' M' cs2 y2 fp2 x2 hMM hch hr2 hnone hat hs
        simp only [SetP] at hs
        obtain ⟨cs3, fp3, k1, _, _, k2, k3, k9, k10⟩ := g6 w' M' cs2 y2 fp2 x2 hMM
          (by
            rintro c (h | h | ⟨o', h⟩)
            · exact hch c (.inl h)
            · exact hch c (.inr (.inl (by simp [h])))
            · simp only [Option.some.injEq, Prod.mk.injEq] at h
              exact hch c (.inr (.inl (by rw [← h.1]; simp)))) hr2
          (fun h0 _ => hnone h0 (by simp)) hat hs
        have hcb := hch b (.inr (.inl (by simp)))
        refine ⟨[.pointer (some ⟨b, o, none⟩)], b :: fp3, ⟨b, o, fp3, cs3, rfl, rfl, k1.len, k2 b o rfl, hcb.fr hfr, k1⟩, by simp, fun _ _ => rfl, ?_, ?_, ⟨b, o, cs3, rfl, k1.len, k2 b o rfl, k9⟩, ?_⟩
        · intro b' o' h
          have hb' := (hb b' o' h).1
          refine ((hl b' o' h).1).sm ((hch b' (.inr (.inr ⟨o', h⟩))).sm ?_)
          intro ot h'
          rcases g5 b' ot h' with ⟨o1, h1, _⟩ | h1
          · simp only [Option.some.injEq, Prod.mk.injEq] at h1
            exact hb' (by rw [h1.1]; simp)
          · exact hb' (List.mem_cons_of_mem _ (g4.mem_iff.2 (by simp [h1])))
        · rw [List.perm_iff_count] at k3 ⊢
          intro c
          have := k3 c
          simp only [List.count_append, List.count_cons] at this ⊢
          omega
        · intro q τq lq cq hk hq
          cases q with
          | nil => exact hq
          | cons s' q =>
            cases s' <;> simp only [keepP] at hk <;> first | (cases hk; done) | skip
            obtain ⟨b', o', dj, h1, h3, h4, h5⟩ := hq
            simp only [List.cons.injEq, Value.pointer.injEq, Option.some.injEq, Addr.mk.injEq, and_true] at h1
            obtain ⟨rfl, rfl⟩ := h1
            obtain rfl := h4.eq hd2 (by omega)
            exact ⟨b, o, cs3, rfl, k1.len, k2 b o rfl, k10 q τq lq cq hk h5⟩
    case st.unst t =>
      obtain ⟨loc', cs', fp', rest, g1, g2, g3, g4, g5, g6⟩ := ih (loc := loc) (τ := t) hr hl hn hb hm hg
      refine ⟨loc', cs', fp', rest, g1, g2, g3, g4, g5, ?_⟩
      intro w' M' cs2 y2 fp2 x2 hMM hch hr2 hnone hat hs
      obtain ⟨cs3, fp3, k1, k4, k5, k2, k3, k9, k10⟩ := g6 w' M' cs2 y2 fp2 x2 hMM hch hr2 (fun h0 _ => hnone h0 (by simp)) hat hs
      refine ⟨cs3, fp3, k1, by simp, k5, k2, k3, k9, ?_⟩
      intro q τq lq cq hk hq
      cases q with
      | nil =>
        obtain ⟨rfl, rfl, rfl⟩ := Nav.root_iff.1 hq
        obtain ⟨_, _, e⟩ := Nav.root_iff.1 (k10 [] t loc cs (by simpa [keepP, hasMem] using hk) (Nav.root_iff.2 ⟨rfl, rfl, rfl⟩))
        exact Nav.root_iff.2 ⟨rfl, rfl, e⟩
      | cons s' q =>
        cases s' <;> simp only [keepP] at hk <;> first | (cases hk; done) | skip
        exact k10 q τq lq cq hk hq
    case pr.fst ta tb =>
      obtain ⟨f1, f2, rfl, h1, h2⟩ := hr
      have l1 := h1.len
      have l2 := h2.len
      simp only [List.length_take, List.length_drop] at l1 l2
      have hlo : LocOk w loc (cs.take ta.size) ta.size := fun b o h => ⟨(hl b o h).1.take, fun j q1 q2 => (hl b o h).2 j q1 (by show j < o + (ta.size + tb.size); omega)⟩
      simp only [List.nodup_append] at hn
      obtain ⟨hn1, hn2, hn3⟩ := hn
      obtain ⟨loc', cs', fp', rest, g1, g2, g3, g4, g5, g6⟩ := ih (loc := loc) h1 hlo hn1 (fun b o h => ⟨fun q => (hb b o h).1 (by simp [q]), (hb b o h).2⟩) (fun c hc => hm c (by simp [hc])) hg
      refine ⟨loc', cs', fp', rest ++ f2, g1, g2, g3, ?_, ?_, ?_⟩
      · rw [List.perm_iff_count] at g4 ⊢
        intro c
        have := g4 c
        simp only [List.count_append] at this ⊢
        omega
      · intro bt ot h
        rcases g5 bt ot h with ⟨o', q1, q2, q3⟩ | q1
        · exact .inl ⟨o', q1, q2, by show ot + τ'.size ≤ o' + (ta.size + tb.size); omega⟩
        · exact .inr (by simp [q1])
      · intro w' M' cs2 y2 fp2 x2 hMM hch hr2 hnone hat hs
        simp only [SetP] at hs
        obtain ⟨e', hs, rfl⟩ := hs
        obtain ⟨cs3, fp3, k1, _, k5, k2, k3, k9, k10⟩ := g6 w' M' cs2 y2 fp2 e' hMM
          (by
            rintro c (h | h | h)
            · exact hch c (.inl h)
            · exact hch c (.inr (.inl (by simp [h])))
            · exact hch c (.inr (.inr h))) hr2 (fun h0 _ => hnone h0 (by simp)) hat hs
        have hbt : ∀ bt ot, loc' = some (bt, ot) → (∃ o, loc = some (bt, o) ∧ o ≤ ot ∧ ot + τ'.size ≤ o + ta.size) ∨ bt ∈ f1 := fun bt ot h => (g5 bt ot h).imp id (fun q => g4.mem_iff.2 (by simp [q]))
        have hMsm : ∀ m c, M m c → M' m c ∧ Sm w w' c := fun m c hc => ⟨hMM m c hc, (hch c (.inl ⟨m, hc⟩)).sm (fun o' h => by
          rcases hbt c o' h with ⟨o, q, _⟩ | q
          · exact (hb c o q).2 m hc
          · exact hm c (by simp [q]) m hc)⟩
        have hsm2 : ∀ c ∈ f2, Sm w w' c := fun c hc => (hch c (.inr (.inl (by simp [hc])))).sm (fun ot h => by
          rcases hbt c ot h with ⟨o, q, _⟩ | q
          · exact (hb c o q).1 (by simp [hc])
          · exact hn3 c q c hc rfl)
        have l3 := k1.len
        refine ⟨cs3 ++ cs.drop ta.size, fp3 ++ f2, ⟨fp3, f2, rfl, ?_, ?_⟩, by simp, ?_, ?_, ?_, (by
          show Nav w' ta loc ((cs3 ++ cs.drop ta.size).take ta.size) p τ' loc' cs2
          rw [List.take_append_of_le_length (by omega), List.take_of_length_le (by omega)]; exact k9), ?_⟩
        · rw [List.take_append_of_le_length (by omega), List.take_of_length_le (by omega)]; exact k1
        · rw [List.drop_append_of_le_length (by omega), List.drop_of_length_le (by omega), List.nil_append]
          exact h2.mono hMsm hsm2
        · intro q1 q2
          rw [k5 q1 q2, List.take_append_drop]
        · intro b o h
          refine (k2 b o h).append ?_
          rw [l3]
          intro j v hj
          have hcb := hch b (.inr (.inr ⟨o, h⟩))
          have hjl : j < (cs.drop ta.size).length := (List.getElem?_eq_some_iff.1 hj).1
          simp only [List.length_drop] at hjl
          rw [hcb.1]
          · exact ((hl b o h).1.drop) j v hj
          · intro ot h'
            rcases hbt b ot h' with ⟨o1, q1, q2, q3⟩ | q
            · rw [h] at q1
              simp only [Option.some.injEq, Prod.mk.injEq, true_and] at q1
              right; omega
            · exact absurd (by simp [q]) (hb b o h).1
        · rw [List.perm_iff_count] at k3 ⊢
          intro c
          have := k3 c
          simp only [List.count_append] at this ⊢
          omega
        · intro q τq lq cq hk hq
          have e1 : (cs3 ++ cs.drop ta.size).take ta.size = cs3 := by rw [List.take_append_of_le_length (by omega), List.take_of_length_le (by omega)]
          have e2 : (cs3 ++ cs.drop ta.size).drop ta.size = cs.drop ta.size := by rw [List.drop_append_of_le_length (by omega), List.drop_of_length_le (by omega), List.nil_append]
          cases q with
          | nil =>
            obtain ⟨rfl, rfl, rfl⟩ := Nav.root_iff.1 hq
            obtain ⟨_, _, e⟩ := Nav.root_iff.1 (k10 [] ta loc (cs.take ta.size) (by simpa [keepP, hasMem] using hk) (Nav.root_iff.2 ⟨rfl, rfl, rfl⟩))
            exact Nav.root_iff.2 ⟨rfl, rfl, by rw [e, List.take_append_drop]⟩
          | cons s' q =>
            cases s' <;> simp only [keepP] at hk <;> first | (cases hk; done) | skip
            · show Nav w' ta loc ((cs3 ++ cs.drop ta.size).take ta.size) q τq lq cq
              rw [e1]
              exact k10 q τq lq cq hk hq
            · show Nav w' tb (loc.map fun q => (q.1, q.2 + ta.size)) ((cs3 ++ cs.drop ta.size).drop ta.size) q τq lq cq
              rw [e2]
              exact Nav.sm h2 hsm2 hq
    case pr.snd ta tb =>
      obtain ⟨f1, f2, rfl, h1, h2⟩ := hr
      have l1 := h1.len
      have l2 := h2.len
      simp only [List.length_take, List.length_drop] at l1 l2
      have hlo : LocOk w (loc.map fun q => (q.1, q.2 + ta.size)) (cs.drop ta.size) tb.size := by
        intro b o h
        cases loc with
        | none => simp at h
        | some q =>
          obtain ⟨b0, o0⟩ := q
          simp only [Option.map_some, Option.some.injEq, Prod.mk.injEq] at h
          obtain ⟨rfl, rfl⟩ := h
          exact ⟨(hl _ _ rfl).1.drop, fun j q1 q2 => (hl _ _ rfl).2 j (by omega) (by show j < o0 + (ta.size + tb.size); omega)⟩
      simp only [List.nodup_append] at hn
      obtain ⟨hn1, hn2, hn3⟩ := hn
      have hb2 : ∀ b o, (loc.map fun q => (q.1, q.2 + ta.size)) = some (b, o) → ∃ o0, loc = some (b, o0) ∧ o = o0 + ta.size := by
        intro b o h
        cases loc with
        | none => simp at h
        | some q =>
          obtain ⟨b0, o0⟩ := q
          simp only [Option.map_some, Option.some.injEq, Prod.mk.injEq] at h
          exact ⟨o0, by rw [h.1], h.2.symm⟩
      obtain ⟨loc', cs', fp', rest, g1, g2, g3, g4, g5, g6⟩ := ih (loc := loc.map fun q => (q.1, q.2 + ta.size)) h2 hlo hn2
        (fun b o h => by obtain ⟨o0, h, _⟩ := hb2 b o h; exact ⟨fun q => (hb b o0 h).1 (by simp [q]), (hb b o0 h).2⟩) (fun c hc => hm c (by simp [hc])) hg
      refine ⟨loc', cs', fp', rest ++ f1, g1, g2, g3, ?_, ?_, ?_⟩
      · rw [List.perm_iff_count] at g4 ⊢
        intro c
        have := g4 c
        simp only [List.count_append] at this ⊢
        omega
      · intro bt ot h
        rcases g5 bt ot h with ⟨o', q1, q2, q3⟩ | q1
        · obtain ⟨o0, q4, rfl⟩ := hb2 _ _ q1
          exact .inl ⟨o0, q4, by omega, by show ot + τ'.size ≤ o0 + (ta.size + tb.size); omega⟩
        · exact .inr (by simp [q1])
      · intro w' M' cs2 y2 fp2 x2 hMM hch hr2 hnone hat hs
        simp only [SetP] at hs
        obtain ⟨e', hs, rfl⟩ := hs
        obtain ⟨cs3, fp3, k1, _, k5, k2, k3, k9, k10⟩ := g6 w' M' cs2 y2 fp2 e' hMM
          (by
            rintro c (h | h | ⟨o, h⟩)
            · exact hch c (.inl h)
            · exact hch c (.inr (.inl (by simp [h])))
            · obtain ⟨o0, q4, rfl⟩ := hb2 _ _ h
              exact hch c (.inr (.inr ⟨o0, q4⟩))) hr2 (fun h0 _ => hnone h0 (by simp)) hat hs
        have hbt : ∀ bt ot, loc' = some (bt, ot) → (∃ o, loc = some (bt, o) ∧ o + ta.size ≤ ot ∧ ot + τ'.size ≤ o + ta.size + tb.size) ∨ bt ∈ f2 := fun bt ot h => by
          rcases g5 bt ot h with ⟨o', q1, q2, q3⟩ | q
          · obtain ⟨o0, q4, rfl⟩ := hb2 _ _ q1
            exact .inl ⟨o0, q4, q2, q3⟩
          · exact .inr (g4.mem_iff.2 (by simp [q]))
        have hMsm : ∀ m c, M m c → M' m c ∧ Sm w w' c := fun m c hc => ⟨hMM m c hc, (hch c (.inl ⟨m, hc⟩)).sm (fun o' h => by
          rcases hbt c o' h with ⟨o, q, _⟩ | q
          · exact (hb c o q).2 m hc
          · exact hm c (by simp [q]) m hc)⟩
        have hsm1 : ∀ c ∈ f1, Sm w w' c := fun c hc => (hch c (.inr (.inl (by simp [hc])))).sm (fun ot h => by
          rcases hbt c ot h with ⟨o, q, _⟩ | q
          · exact (hb c o q).1 (by simp [hc])
          · exact hn3 c hc c q rfl)
        have l3 := k1.len
        refine ⟨cs.take ta.size ++ cs3, f1 ++ fp3, ⟨f1, fp3, rfl, ?_, ?_⟩, by simp, ?_, ?_, ?_, (by
          show Nav w' tb (loc.map fun q => (q.1, q.2 + ta.size)) ((cs.take ta.size ++ cs3).drop ta.size) p τ' loc' cs2
          rw [List.drop_append_of_le_length (by simp; omega), List.drop_of_length_le (by simp; omega), List.nil_append]; exact k9), ?_⟩
        · rw [List.take_append_of_le_length (by simp; omega), List.take_take, Nat.min_self]
          exact h1.mono hMsm hsm1
        · rw [List.drop_append_of_le_length (by simp; omega), List.drop_of_length_le (by simp; omega), List.nil_append]; exact k1
        · intro q1 q2
          rw [k5 (by rw [q1]; rfl) q2, List.take_append_drop]
        · intro b o h
          have hcb := hch b (.inr (.inr ⟨o, h⟩))
          have ha : At w' b o (cs.take ta.size) := by
            intro j v hj
            have hjl : j < (cs.take ta.size).length := (List.getElem?_eq_some_iff.1 hj).1
            simp only [List.length_take] at hjl
            rw [hcb.1]
            · exact ((hl b o h).1.take) j v hj
            · intro ot h'
              rcases hbt b ot h' with ⟨o1, q1, q2, q3⟩ | q
              · rw [h] at q1
                simp only [Option.some.injEq, Prod.mk.injEq, true_and] at q1
                left; omega
              · exact absurd (by simp [q]) (hb b o h).1
          refine ha.append ?_
          have := k2 b (o + ta.size) (by rw [h]; rfl)
          rwa [List.length_take, Nat.min_eq_left (by omega)]
        · rw [List.perm_iff_count] at k3 ⊢
          intro c
          have := k3 c
          simp only [List.count_append] at this ⊢
          omega
        · intro q τq lq cq hk hq
          have e1 : (cs.take ta.size ++ cs3).take ta.size = cs.take ta.size := by rw [List.take_append_of_le_length (by simp; omega), List.take_take, Nat.min_self]
          have e2 : (cs.take ta.size ++ cs3).drop ta.size = cs3 := by rw [List.drop_append_of_le_length (by simp; omega), List.drop_of_length_le (by simp; omega), List.nil_append]
          cases q with
          | nil =>
            obtain ⟨rfl, rfl, rfl⟩ := Nav.root_iff.1 hq
            obtain ⟨_, _, e⟩ := Nav.root_iff.1 (k10 [] tb (loc.map fun q => (q.1, q.2 + ta.size)) (cs.drop ta.size) (by simpa [keepP, hasMem] using hk) (Nav.root_iff.2 ⟨rfl, rfl, rfl⟩))
            exact Nav.root_iff.2 ⟨rfl, rfl, by rw [e, List.take_append_drop]⟩
          | cons s' q =>
            cases s' <;> simp only [keepP] at hk <;> first | (cases hk; done) | skip
            · show Nav w' ta loc ((cs.take ta.size ++ cs3).take ta.size) q τq lq cq
              rw [e1]
              exact Nav.sm h1 hsm1 hq
            · show Nav w' tb (loc.map fun q => (q.1, q.2 + ta.size)) ((cs.take ta.size ++ cs3).drop ta.size) q τq lq cq
              rw [e2]
              exact k10 q τq lq cq hk hq
end Go.Fw
end

section
namespace Go.Fw
def md (I B : Nat → Prop) : Md → Nat → Prop
  | .imm => I
  | .bor => fun b => I b ∨ B b
theorem md_or {I B : Nat → Prop} {m : Md} {b : Nat} (h : md I B m b) : I b ∨ B b := by cases m; exact .inl h; exact h
def regV : Ty → List Value → Value
  | .st _, cs => .agg cs.toArray
  | _, cs => cs.headD undef
inductive AV where
  | dead
  | val (τ : Ty) (x : τ.den)
  | ref (id : Nat) (p : List Step)
  | addr (id : Nat) (p : List Step)
  | view (id : Nat) (p : List Step) (lo hi : Nat)
  | app (id : Nat) (p : List Step) (τ : Ty) (ys : List τ.den) (own : List Nat)
  | cv (v : Value)
  | tup (l : List AV)
  | agg (l : List AV)
  | clo (f : Nat) (l : List AV)
abbrev Tree := (τ : Ty) × τ.den
structure St where
  g : List (Nat × AV)
  h : List (Nat × Tree)
def lk {α : Type} : List (Nat × α) → Nat → Option α
  | [], _ => none
  | (k, v) :: r, n => bif Nat.beq k n then some v else lk r n
theorem lk_cons {α : Type} (k : Nat) (v : α) (r : List (Nat × α)) (n : Nat) : lk ((k, v) :: r) n = if k = n then some v else lk r n := by
  show (bif Nat.beq k n then some v else lk r n) = _
  by_cases h : k = n
  · rw [if_pos h, h]; simp
  · rw [if_neg h]
    have : Nat.beq k n = false := by
      cases hb : Nat.beq k n
      · rfl
      · exact absurd (Nat.eq_of_beq_eq_true hb) h
    rw [this]; rfl
def gt (g : List (Nat × AV)) (n : Nat) : AV := match lk g n with | some v => v | none => .dead
structure Ctx where
  I0 : Nat → Prop
  B : Nat → Prop
  F0 : Nat → Prop
  w0 : World
  n : Nat
  pin : List Nat
  vs : Nat → Value
def Ctx.ok (C : Ctx) (d : Nat) : Prop := d < C.n ∧ d ∉ C.pin
inductive AVok (M : Md → Nat → Prop) (w : World) (h : List (Nat × Tree)) (rt : Nat → List Value) (fp : Nat → List Nat) : AV → Value → Prop
  | dead (v : Value) : AVok M w h rt fp .dead v
  | cv (v : Value) : AVok M w h rt fp (.cv v) v
  | val {τ : Ty} {x : τ.den} {cs : List Value} (r : Rep M w τ cs x []) : AVok M w h rt fp (.val τ x) (regV τ cs)
  | ref {id : Nat} {p : List Step} {t : Tree} {τ' : Ty} {loc : Loc} {cs : List Value} (ht : lk h id = some t) (hn : Nav w t.1 none (rt id) p τ' loc cs) : AVok M w h rt fp (.ref id p) (regV τ' cs)
  | addr {id : Nat} {p : List Step} {t : Tree} {τ' : Ty} {b o : Nat} {cs : List Value} (ht : lk h id = some t) (hn : Nav w t.1 none (rt id) p τ' (some (b, o)) cs) : AVok M w h rt fp (.addr id p) (.pointer (some ⟨b, o, none⟩))
  | view {id : Nat} {p : List Step} {lo hi : Nat} {t : Tree} {τ' : Ty} {loc : Loc} {b o len cap : Nat} (ht : lk h id = some t) (hn : Nav w t.1 none (rt id) p (.osl τ') loc [.slice (some ⟨b, o, none⟩) len cap])
      (h1 : lo ≤ hi) (h2 : hi ≤ len) (h3 : len ≤ cap) : AVok M w h rt fp (.view id p lo hi) (.slice (some ⟨b, if cap = lo then o else o + lo * τ'.size, none⟩) (hi - lo) (cap - lo))
  | viewE (id : Nat) (p : List Step) : AVok M w h rt fp (.view id p 0 0) (.slice none 0 0)
  | app {id : Nat} {p : List Step} {τ : Ty} {ys : List τ.den} {own : List Nat} {t : Tree} {loc : Loc} {c0 : List Value} {xs : List τ.den} {f1 f2 : List Nat} {v : Value} (ht : lk h id = some t) (hnb : τ.nb = true)
      (hn : Nav w t.1 none (rt id) p (.osl τ) loc c0) (hg : GetP t.1 t.2 p (.osl τ) xs) (h1 : Rep M w (.osl τ) c0 xs f1) (hf1 : ∀ b ∈ f1, b ∈ fp id) (h2 : Rep M w (.osl τ) [v] (xs ++ ys) f2)
      (hown : ∀ i ∈ own, i ≠ id ∧ ∃ u, lk h i = some u) (hsub : ∀ b ∈ f2, b ∈ f1 ∨ ∃ i ∈ own, b ∈ fp i) (hnd : f2.Nodup) : AVok M w h rt fp (.app id p τ ys own) v
  | tup {l : List AV} {vs : Array Value} (hl : l.length = vs.size) (hh : ∀ (i : Nat) (a : AV) (v : Value), l[i]? = some a → vs[i]? = some v → AVok M w h rt fp a v) : AVok M w h rt fp (.tup l) (.tuple vs)
  | agg {l : List AV} {vs : List Value} (hl : l.length = vs.length) (hh : ∀ (i : Nat) (a : AV) (v : Value), l[i]? = some a → vs[i]? = some v → AVok M w h rt fp a v) :
      AVok M w h rt fp (.agg l) (.agg (vs.map fun v => v.cells.toList).flatten.toArray)
  | clo {f : Nat} {l : List AV} {vs : Array Value} (hl : l.length = vs.size) (hh : ∀ (i : Nat) (a : AV) (v : Value), l[i]? = some a → vs[i]? = some v → AVok M w h rt fp a v) : AVok M w h rt fp (.clo f l) (.func (.func f) #[] vs)
structure RelAt (C : Ctx) (st : St) (tm : Array Value) (w : World) (I : Nat → Prop) (rt : Nat → List Value) (fp : Nat → List Nat) : Prop where
  n : tm.size = C.n
  i0 : ∀ b, C.I0 b → I b
  i1 : ∀ b, I b → C.I0 b ∨ C.w0.heap.size ≤ b ∨ C.F0 b
  ib : ∀ b, I b ∨ C.B b → b < w.heap.size
  tree : ∀ id t, lk st.h id = some t → Rep (md I C.B) w t.1 (rt id) t.2 (fp id) ∧ (fp id).Nodup ∧ ∀ b ∈ fp id, ¬ I b ∧ ¬ C.B b ∧ b < w.heap.size ∧ (C.w0.heap.size ≤ b ∨ C.F0 b)
  dis : ∀ i j t u, lk st.h i = some t → lk st.h j = some u → i ≠ j → ∀ b ∈ fp i, b ∉ fp j
  tmp : ∀ k, AVok (md I C.B) w st.h rt fp (gt st.g k) (tm.getD k undef)
  frame : ∀ b, b < C.w0.heap.size → ¬ C.F0 b → w.heap[b]? = C.w0.heap[b]?
  size : C.w0.heap.size ≤ w.heap.size
  os : w.os = C.w0.os
  tape : w.tape = C.w0.tape
  output : w.output = C.w0.output
  pin : ∀ k ∈ C.pin, tm.getD k undef = C.vs k
def Rel (C : Ctx) (st : St) (tm : Array Value) (w : World) : Prop := ∃ I rt fp, RelAt C st tm w I rt fp
structure Grew (w w' : World) : Prop where
  os : w'.os = w.os
  tape : w'.tape = w.tape
  output : w'.output = w.output
  size : w.heap.size ≤ w'.heap.size
  heap : ∀ b, b < w.heap.size → w'.heap[b]? = w.heap[b]?
theorem Grew.refl (w : World) : Grew w w := ⟨rfl, rfl, rfl, Nat.le_refl _, fun _ _ => rfl⟩
theorem Grew.trans {a b c : World} (h : Grew a b) (k : Grew b c) : Grew a c :=
  ⟨k.os.trans h.os, k.tape.trans h.tape, k.output.trans h.output, Nat.le_trans h.size k.size, fun i hi => (k.heap i (Nat.lt_of_lt_of_le hi h.size)).trans (h.heap i hi)⟩
theorem Grew.drew {a w : World} (h : Grew a w) : Grew a w.drew := ⟨h.os, h.tape, h.output, h.size, h.heap⟩
theorem Grew.alloc (w : World) (o : Obj) : Grew w (w.alloc o) := ⟨rfl, rfl, rfl, by simp, fun b hb => by
  show (w.heap.push o)[b]? = _
  rw [Array.getElem?_push, if_neg (by omega)]⟩
theorem AVok.mono {M M' : Md → Nat → Prop} {w w' : World} {h h' : List (Nat × Tree)} {rt rt' : Nat → List Value} {fp fp' : Nat → List Nat} (hM : ∀ m b, M m b → M' m b ∧ Sm w w' b)
    (hh : ∀ id t, lk h id = some t → Rep M w t.1 (rt id) t.2 (fp id) ∧ ∀ b ∈ fp id, Sm w w' b)
    {a : AV} {v : Value} (ha : AVok M w h rt fp a v)
    (hk : ∀ id t, lk h id = some t → lk h' id = some t ∧ rt' id = rt id ∧ fp' id = fp id) : AVok M' w' h' rt' fp' a v := by
  induction ha with
  | dead v => exact .dead v
  | cv v => exact .cv v
  | val r => exact .val (r.mono hM (by simp))
  | ref ht hn =>
    obtain ⟨k1, k2, _⟩ := hk _ _ ht
    exact .ref k1 (by rw [k2]; exact hn.sm (hh _ _ ht).1 (hh _ _ ht).2)
  | addr ht hn =>
    obtain ⟨k1, k2, _⟩ := hk _ _ ht
    exact .addr k1 (by rw [k2]; exact hn.sm (hh _ _ ht).1 (hh _ _ ht).2)
  | viewE id p => exact .viewE id p
  | view ht hn h1 h2 h3 =>
    obtain ⟨k1, k2, _⟩ := hk _ _ ht
    exact .view k1 (by rw [k2]; exact hn.sm (hh _ _ ht).1 (hh _ _ ht).2) h1 h2 h3
  | @app id p τ ys own t loc c0 xs f1 f2 v ht hnb hn hg h1 hf1 h2 hown hsub hnd =>
    obtain ⟨k1, k2, k3⟩ := hk _ _ ht
    obtain ⟨hr, hs⟩ := hh _ _ ht
    have hf2 : ∀ b ∈ f2, Sm w w' b := fun b hb => by
      rcases hsub b hb with hb | ⟨i, hi, hb⟩
      · exact hs b (hf1 b hb)
      · obtain ⟨_, u, hu⟩ := hown i hi
        exact (hh i u hu).2 b hb
    refine .app k1 hnb (by rw [k2]; exact hn.sm hr hs) hg (h1.mono hM (fun b hb => hs b (hf1 b hb))) (by rw [k3]; exact hf1) (h2.mono hM hf2) ?_ ?_ hnd
    · intro i hi
      obtain ⟨q, u, hu⟩ := hown i hi
      exact ⟨q, u, (hk i u hu).1⟩
    · intro b hb
      rcases hsub b hb with hb | ⟨i, hi, hb⟩
      · exact .inl hb
      · obtain ⟨_, u, hu⟩ := hown i hi
        exact .inr ⟨i, hi, by rw [(hk i u hu).2.2]; exact hb⟩
  | tup hl _ ih => exact .tup hl (fun i a v h1 h2 => ih i a v h1 h2)
  | agg hl _ ih => exact .agg hl (fun i a v h1 h2 => ih i a v h1 h2)
  | clo hl _ ih => exact .clo hl (fun i a v h1 h2 => ih i a v h1 h2)
end Go.Fw
end

section
namespace Go.Fw
def opA (g : List (Nat × AV)) : Operand → AV
  | .tmp t => gt g t
  | .const (.int k n) => .val (.int k) n
  | .const (.bool b) => .val .bool b
  | .const (.string s) => .val .str s
  | .const v => .cv v
  | .func f => .clo f []
  | .global _ => .dead
theorem AVok.int {M : Md → Nat → Prop} {w : World} {h : List (Nat × Tree)} {rt : Nat → List Value} {fp : Nat → List Nat} (k : IntKind) (n : Int) : AVok M w h rt fp (.val (.int k) n) (.int k n) :=
  .val (τ := .int k) (cs := [.int k n]) ⟨rfl, rfl⟩
theorem AVok.bool {M : Md → Nat → Prop} {w : World} {h : List (Nat × Tree)} {rt : Nat → List Value} {fp : Nat → List Nat} (b : Bool) : AVok M w h rt fp (.val .bool b) (.bool b) :=
  .val (τ := .bool) (cs := [.bool b]) ⟨rfl, rfl⟩
theorem AVok.str {M : Md → Nat → Prop} {w : World} {h : List (Nat × Tree)} {rt : Nat → List Value} {fp : Nat → List Nat} (s : ByteArray) : AVok M w h rt fp (.val .str s) (.string s) :=
  .val (τ := .str) (cs := [.string s]) ⟨rfl, rfl⟩
theorem RelAt.opA {C : Ctx} {st : St} {a : Act} {w : World} {I : Nat → Prop} {rt : Nat → List Value} {fp : Nat → List Nat} (h : RelAt C st a.tmps w I rt fp) (x : Operand) :
    AVok (md I C.B) w st.h rt fp (opA st.g x) (a.eval x) := by
  cases x with
  | tmp t => exact h.tmp t
  | const v =>
    cases v <;> simp only [Fw.opA, Act.eval]
    case int k n => exact .int k n
    case bool b => exact .bool b
    case string s => exact .str s
    all_goals exact .cv _
  | func f => exact .clo (vs := #[]) (by simp) (by simp)
  | global g => exact .dead _
theorem lk_append {α : Type} : ∀ (l r : List (Nat × α)) (n : Nat), lk (l ++ r) n = (lk l n).or (lk r n)
  | [], r, n => by simp [lk]
  | (k, v) :: l, r, n => by
    rw [List.cons_append, lk_cons, lk_cons, lk_append l r n]
    split <;> simp
theorem gt_cons (d : Nat) (av : AV) (g : List (Nat × AV)) (k : Nat) : gt ((d, av) :: g) k = if d = k then av else gt g k := by
  unfold gt
  rw [lk_cons]
  by_cases h : d = k <;> simp [h]
theorem RelAt.put {C : Ctx} {st : St} {tm : Array Value} {w : World} {I : Nat → Prop} {rt : Nat → List Value} {fp : Nat → List Nat} (h : RelAt C st tm w I rt fp) {d : Nat} (hd : C.ok d) {av : AV} {v : Value}
    (hv : AVok (md I C.B) w st.h rt fp av v) : RelAt C ⟨(d, av) :: st.g, st.h⟩ (tm.setIfInBounds d v) w I rt fp where
  n := by simpa using h.n
  i0 := h.i0
  i1 := h.i1
  ib := h.ib
  tree := h.tree
  dis := h.dis
  tmp := fun k => by
    show AVok _ _ _ _ _ (gt ((d, av) :: st.g) k) _
    unfold gt
    rw [lk_cons]
    have hs : d < tm.size := by rw [h.n]; exact hd.1
    by_cases hk : d = k
    · subst hk
      rw [if_pos rfl]
      have : (tm.setIfInBounds d v).getD d undef = v := by simp [Array.getD, hs]
      rw [this]
      exact hv
    · rw [if_neg hk]
      have : (tm.setIfInBounds d v).getD k undef = tm.getD k undef := by
        simp only [Array.getD_eq_getD_getElem?, Array.getElem?_setIfInBounds_ne hk]
      rw [this]
      exact h.tmp k
  frame := h.frame
  size := h.size
  os := h.os
  tape := h.tape
  output := h.output
  pin := fun k hk => by
    have : d ≠ k := fun e => hd.2 (e ▸ hk)
    rw [← h.pin k hk]
    simp only [Array.getD_eq_getD_getElem?, Array.getElem?_setIfInBounds_ne this]
structure NewOk (C : Ctx) (st : St) (w w' : World) (I' : Nat → Prop) (new : List (Nat × Tree)) (rtn : Nat → List Value) (fpn : Nat → List Nat) : Prop where
  tree : ∀ id t, lk new id = some t → lk st.h id = none ∧ Rep (md I' C.B) w' t.1 (rtn id) t.2 (fpn id) ∧ (fpn id).Nodup ∧ ∀ b ∈ fpn id, w.heap.size ≤ b ∧ b < w'.heap.size ∧ ¬ I' b
  dis : ∀ i j t u, lk new i = some t → lk new j = some u → i ≠ j → ∀ b ∈ fpn i, b ∉ fpn j
theorem NewOk.nil {C : Ctx} {st : St} {w w' : World} {I' : Nat → Prop} {rtn : Nat → List Value} {fpn : Nat → List Nat} : NewOk C st w w' I' [] rtn fpn :=
  ⟨(fun _ _ h => by cases h), (fun _ _ _ _ h => by cases h)⟩
theorem NewOk.one {C : Ctx} {st : St} {w w' : World} {I' : Nat → Prop} {id : Nat} {t : Tree} {cs : List Value} {f : List Nat} (hn : lk st.h id = none) (hr : Rep (md I' C.B) w' t.1 cs t.2 f) (hf : f.Nodup)
    (hb : ∀ b ∈ f, w.heap.size ≤ b ∧ b < w'.heap.size ∧ ¬ I' b) : NewOk C st w w' I' [(id, t)] (fun _ => cs) (fun _ => f) where
  tree := fun i u h => by
    rw [lk_cons] at h
    split at h
    · rename_i e; subst e; obtain rfl := Option.some.inj h; exact ⟨hn, hr, hf, hb⟩
    · cases h
  dis := fun i j t' u h1 h2 hij => by
    rw [lk_cons] at h1 h2
    split at h1
    · split at h2
      · rename_i e1 e2; exact absurd (e1.symm.trans e2) hij
      · cases h2
    · cases h1
def mixv (new : List (Nat × Tree)) {α : Type} (a b : Nat → α) : Nat → α := fun id => match lk new id with | some _ => a id | none => b id
theorem RelAt.ext {C : Ctx} {st : St} {tm : Array Value} {w w' : World} {I I' : Nat → Prop} {rt rtn : Nat → List Value} {fp fpn : Nat → List Nat} (h : RelAt C st tm w I rt fp) (hg : Grew w w')
    (hI : ∀ b, I b → I' b) (hI2 : ∀ b, I' b → I b ∨ (w.heap.size ≤ b ∧ b < w'.heap.size)) {new : List (Nat × Tree)} (hn : NewOk C st w w' I' new rtn fpn) :
    RelAt C ⟨st.g, new ++ st.h⟩ tm w' I' (mixv new rtn rt) (mixv new fpn fp) := by
  have hM : ∀ m b, md I C.B m b → md I' C.B m b ∧ Sm w w' b := fun m b hb => by
    refine ⟨?_, .of_heap (hg.heap b (h.ib b (md_or hb)))⟩
    cases m
    · exact hI b hb
    · exact hb.imp (hI b) id
  have hold : ∀ id t, lk st.h id = some t → lk (new ++ st.h) id = some t ∧ mixv new rtn rt id = rt id ∧ mixv new fpn fp id = fp id := fun id t ht => by
    have : lk new id = none := by
      cases hh : lk new id with
      | none => rfl
      | some u => have := (hn.tree id u hh).1; rw [ht] at this; cases this
    refine ⟨by rw [lk_append, this, ht]; rfl, by simp [mixv, this], by simp [mixv, this]⟩
  have hcase : ∀ id t, lk (new ++ st.h) id = some t → (lk new id = some t ∧ mixv new rtn rt id = rtn id ∧ mixv new fpn fp id = fpn id) ∨ (lk st.h id = some t ∧ mixv new rtn rt id = rt id ∧ mixv new fpn fp id = fp id) := fun id t ht => by
    rw [lk_append] at ht
    cases hh : lk new id with
    | none => rw [hh] at ht; exact .inr ⟨by simpa using ht, by simp [mixv, hh], by simp [mixv, hh]⟩
    | some u => rw [hh] at ht; exact .inl ⟨by simpa using ht, by simp [mixv, hh], by simp [mixv, hh]⟩
  have hbs : ∀ id t, lk st.h id = some t → ∀ b ∈ fp id, Sm w w' b := fun id t ht b hb => .of_heap (hg.heap b ((h.tree id t ht).2.2 b hb).2.2.1)
  refine { n := h.n, i0 := fun b hb => hI b (h.i0 b hb), i1 := ?_, ib := ?_, tree := ?_, dis := ?_, tmp := ?_, frame := ?_, size := Nat.le_trans h.size hg.size, os := hg.os.trans h.os, tape := hg.tape.trans h.tape, output := hg.output.trans h.output, pin := h.pin }
  · intro b hb
    rcases hI2 b hb with hb | ⟨hb, _⟩
    · exact h.i1 b hb
    · exact .inr (.inl (Nat.le_trans h.size hb))
  · intro b hb
    rcases hb with hb | hb
    · rcases hI2 b hb with hb | ⟨_, hb⟩
      · exact Nat.lt_of_lt_of_le (h.ib b (.inl hb)) hg.size
      · exact hb
    · exact Nat.lt_of_lt_of_le (h.ib b (.inr hb)) hg.size
  · intro id t ht
    rcases hcase id t ht with ⟨h1, h2, h3⟩ | ⟨h1, h2, h3⟩
    · obtain ⟨_, q1, q2, q3⟩ := hn.tree id t h1
      rw [h2, h3]
      refine ⟨q1, q2, fun b hb => ?_⟩
      obtain ⟨r1, r2, r3⟩ := q3 b hb
      exact ⟨r3, fun hB => by have := h.ib b (.inr hB); omega, r2, .inl (Nat.le_trans h.size r1)⟩
    · obtain ⟨q1, q2, q3⟩ := h.tree id t h1
      rw [h2, h3]
      refine ⟨q1.mono hM (hbs id t h1), q2, fun b hb => ?_⟩
      obtain ⟨r1, r2, r3, r4⟩ := q3 b hb
      exact ⟨fun hb' => (hI2 b hb').elim r1 (fun q => by omega), r2, Nat.lt_of_lt_of_le r3 hg.size, r4⟩
  · intro i j t u hi hj hij b hb
    rcases hcase i t hi with ⟨h1, _, h3⟩ | ⟨h1, _, h3⟩ <;> rcases hcase j u hj with ⟨k1, _, k3⟩ | ⟨k1, _, k3⟩ <;> rw [h3] at hb <;> rw [k3]
    · exact hn.dis i j t u h1 k1 hij b hb
    · intro hb'
      have := ((hn.tree i t h1).2.2.2 b hb).1
      have := ((h.tree j u k1).2.2 b hb').2.2.1
      omega
    · intro hb'
      have := ((hn.tree j u k1).2.2.2 b hb').1
      have := ((h.tree i t h1).2.2 b hb).2.2.1
      omega
    · exact h.dis i j t u h1 k1 hij b hb
  · intro k
    exact (h.tmp k).mono hM (fun id t ht => ⟨(h.tree id t ht).1, hbs id t ht⟩) hold
  · intro b hb hF
    rw [hg.heap b (Nat.lt_of_lt_of_le hb h.size)]
    exact h.frame b hb hF
theorem RelAt.grew {C : Ctx} {st : St} {tm : Array Value} {w w' : World} {I : Nat → Prop} {rt : Nat → List Value} {fp : Nat → List Nat} (h : RelAt C st tm w I rt fp) (hg : Grew w w') :
    RelAt C st tm w' I rt fp := by
  have := h.ext (rtn := rt) (fpn := fp) hg (fun _ h => h) (fun _ h => .inl h) (new := []) .nil
  exact this
def covG : List (Nat × AV) → St → Prop
  | [], _ => True
  | (k, av) :: r, st => gt st.g k = av ∧ covG r st
def covH : List (Nat × Tree) → St → Prop
  | [], _ => True
  | (k, t) :: r, st => lk st.h k = some t ∧ covH r st
theorem covG.get {r : List (Nat × AV)} {st : St} (h : covG r st) : ∀ k, gt r k = .dead ∨ gt r k = gt st.g k := by
  induction r with
  | nil => exact fun k => .inl rfl
  | cons q r ih =>
    obtain ⟨k0, av⟩ := q
    intro k
    rw [gt_cons]
    split
    · rename_i e; subst e; exact .inr h.1.symm
    · exact ih h.2 k
theorem covH.get {r : List (Nat × Tree)} {st : St} (h : covH r st) : ∀ k t, lk r k = some t → lk st.h k = some t := by
  induction r with
  | nil => intro k t h; cases h
  | cons q r ih =>
    obtain ⟨k0, av⟩ := q
    intro k t ht
    rw [lk_cons] at ht
    split at ht
    · rename_i e; subst e; rw [← ht]; exact h.1
    · exact ih h.2 k t ht
mutual
def AV.ids : AV → List Nat
  | .dead | .val _ _ | .cv _ => []
  | .ref id _ | .addr id _ | .view id _ _ _ => [id]
  | .app id _ _ _ own => id :: own
  | .tup l | .agg l | .clo _ l => AV.idsL l
def AV.idsL : List AV → List Nat
  | [] => []
  | a :: r => a.ids ++ AV.idsL r
end
theorem AV.mem_idsL {l : List AV} {i : Nat} {a : AV} (h : l[i]? = some a) {id : Nat} (hid : id ∈ a.ids) : id ∈ AV.idsL l := by
  induction l generalizing i with
  | nil => simp at h
  | cons x r ih =>
    simp only [AV.idsL, List.mem_append]
    cases i with
    | zero => simp at h; subst h; exact .inl hid
    | succ i => simp at h; exact .inr (ih h)
theorem AVok.monoOn {M M' : Md → Nat → Prop} {w w' : World} {h h' : List (Nat × Tree)} {rt rt' : Nat → List Value} {fp fp' : Nat → List Nat} (hM : ∀ m b, M m b → M' m b ∧ Sm w w' b)
    {a : AV} {v : Value} (ha : AVok M w h rt fp a v)
    (hk : ∀ id ∈ a.ids, ∀ t, lk h id = some t → lk h' id = some t ∧ rt' id = rt id ∧ fp' id = fp id ∧ Rep M w t.1 (rt id) t.2 (fp id) ∧ ∀ b ∈ fp id, Sm w w' b) : AVok M' w' h' rt' fp' a v := by
  induction ha with
  | dead v => exact .dead v
  | cv v => exact .cv v
  | val r => exact .val (r.mono hM (by simp))
  | ref ht hn =>
    obtain ⟨k1, k2, _, k4, k5⟩ := hk _ (by simp [AV.ids]) _ ht
    exact .ref k1 (by rw [k2]; exact hn.sm k4 k5)
  | addr ht hn =>
    obtain ⟨k1, k2, _, k4, k5⟩ := hk _ (by simp [AV.ids]) _ ht
    exact .addr k1 (by rw [k2]; exact hn.sm k4 k5)
  | viewE id p => exact .viewE id p
  | view ht hn h1 h2 h3 =>
    obtain ⟨k1, k2, _, k4, k5⟩ := hk _ (by simp [AV.ids]) _ ht
    exact .view k1 (by rw [k2]; exact hn.sm k4 k5) h1 h2 h3
  | @app id p τ ys own t loc c0 xs f1 f2 v ht hnb hn hg h1 hf1 h2 hown hsub hnd =>
    obtain ⟨k1, k2, k3, hr, hs⟩ := hk _ (by simp [AV.ids]) _ ht
    have hf2 : ∀ b ∈ f2, Sm w w' b := fun b hb => by
      rcases hsub b hb with hb | ⟨i, hi, hb⟩
      · exact hs b (hf1 b hb)
      · obtain ⟨_, u, hu⟩ := hown i hi
        exact (hk i (by simp [AV.ids, hi]) u hu).2.2.2.2 b hb
    refine .app k1 hnb (by rw [k2]; exact hn.sm hr hs) hg (h1.mono hM (fun b hb => hs b (hf1 b hb))) (by rw [k3]; exact hf1) (h2.mono hM hf2) ?_ ?_ hnd
    · intro i hi
      obtain ⟨q, u, hu⟩ := hown i hi
      exact ⟨q, u, (hk i (by simp [AV.ids, hi]) u hu).1⟩
    · intro b hb
      rcases hsub b hb with hb | ⟨i, hi, hb⟩
      · exact .inl hb
      · obtain ⟨_, u, hu⟩ := hown i hi
        exact .inr ⟨i, hi, by rw [(hk i (by simp [AV.ids, hi]) u hu).2.2.1]; exact hb⟩
  | tup hl _ ih => exact .tup hl (fun i a v h1 h2 => ih i a v h1 h2 (fun id hid => hk id (AV.mem_idsL h1 hid)))
  | agg hl _ ih => exact .agg hl (fun i a v h1 h2 => ih i a v h1 h2 (fun id hid => hk id (AV.mem_idsL h1 hid)))
  | clo hl _ ih => exact .clo hl (fun i a v h1 h2 => ih i a v h1 h2 (fun id hid => hk id (AV.mem_idsL h1 hid)))
theorem RelAt.cov {C : Ctx} {st st' : St} {tm : Array Value} {w : World} {I : Nat → Prop} {rt : Nat → List Value} {fp : Nat → List Nat} (h : RelAt C st tm w I rt fp)
    (hg : covG st'.g st) (hh : covH st'.h st) (hid : ∀ k, ∀ id ∈ (gt st'.g k).ids, (lk st'.h id).isSome = true) : RelAt C st' tm w I rt fp where
  n := h.n
  i0 := h.i0
  i1 := h.i1
  ib := h.ib
  tree := fun id t ht => h.tree id t (hh.get id t ht)
  dis := fun i j t u hi hj => h.dis i j t u (hh.get i t hi) (hh.get j u hj)
  tmp := fun k => by
    rcases hg.get k with e | e
    · rw [e]; exact .dead _
    · have := hid k
      rw [e] at this ⊢
      refine (h.tmp k).monoOn (fun m b hb => ⟨hb, Sm.refl w b⟩) (fun id hi t ht => ?_)
      obtain ⟨u, hu⟩ := Option.isSome_iff_exists.1 (this id hi)
      have := hh.get id u hu
      rw [ht] at this
      obtain rfl := Option.some.inj this
      exact ⟨hu, rfl, rfl, (h.tree id t ht).1, fun b _ => Sm.refl w b⟩
  frame := h.frame
  size := h.size
  os := h.os
  tape := h.tape
  output := h.output
  pin := h.pin
def idsIn (g : List (Nat × AV)) (h : List (Nat × Tree)) : Bool := g.all fun q => q.2.ids.all fun id => (lk h id).isSome
theorem idsIn.get {g : List (Nat × AV)} {h : List (Nat × Tree)} (hh : idsIn g h = true) (k : Nat) : ∀ id ∈ (gt g k).ids, (lk h id).isSome = true := by
  intro id hid
  unfold gt at hid
  cases hk : lk g k with
  | none => rw [hk] at hid; simp [AV.ids] at hid
  | some av =>
    rw [hk] at hid
    have hm : (k, av) ∈ g := by
      clear hh hid
      induction g with
      | nil => cases hk
      | cons q r ih =>
        obtain ⟨k0, a0⟩ := q
        rw [lk_cons] at hk
        split at hk
        · rename_i e; subst e; obtain rfl := Option.some.inj hk; simp
        · exact List.mem_cons_of_mem _ (ih hk)
    simp only [idsIn, List.all_eq_true] at hh
    exact hh (k, av) hm id hid
end Go.Fw
end

section
namespace Go.Fw
mutual
def TyF (P : Program) : Ty → TypeId → Prop
  | .int k, T => ∃ i, P.info? T = some i ∧ i.size = 1 ∧ i.bytes ≤ 24 ∧ i.zero = some (.int k 0) ∧ P.underlying T = some (.int k)
  | .bool, T => ∃ i, P.info? T = some i ∧ i.size = 1 ∧ i.bytes ≤ 24 ∧ i.zero = some (.bool false) ∧ P.underlying T = some .bool
  | .str, T => ∃ i, P.info? T = some i ∧ i.size = 1 ∧ i.bytes ≤ 24 ∧ i.zero = some (.string ByteArray.empty) ∧ P.underlying T = some .string
  | .slc _ t, T => ∃ i E, P.info? T = some i ∧ i.size = 1 ∧ i.bytes ≤ 24 ∧ i.zero = some (.slice none 0 0) ∧ P.underlying T = some (.slice E) ∧ TyF P t E
  | .osl t, T => ∃ i E, P.info? T = some i ∧ i.size = 1 ∧ i.bytes ≤ 24 ∧ i.zero = some (.slice none 0 0) ∧ P.underlying T = some (.slice E) ∧ TyF P t E
  | .ptr _ t, T => ∃ i E, P.info? T = some i ∧ i.size = 1 ∧ i.bytes ≤ 24 ∧ i.zero = some (.pointer none) ∧ P.underlying T = some (.pointer E) ∧ TyF P t E
  | .optr t, T => ∃ i E, P.info? T = some i ∧ i.size = 1 ∧ i.bytes ≤ 24 ∧ i.zero = some (.pointer none) ∧ P.underlying T = some (.pointer E) ∧ TyF P t E
  | .st t, T => 0 < t.size ∧ ∃ i fs zs, P.info? T = some i ∧ i.size = t.size ∧ i.bytes ≤ 24 * t.size ∧ i.zero = some (.agg zs) ∧ P.underlying T = some (.struct fs) ∧ FldF P t fs.toList 0 zs.toList ∧ zs.size = t.size
  | _, _ => False
def FldF (P : Program) : Ty → List Field → Nat → List Value → Prop
  | .pr a b, f :: r, off, zs => f.offset = off ∧ TyF P a f.type ∧ 0 < a.size ∧ (∃ i z, P.info? f.type = some i ∧ i.zero = some z ∧ zs.take a.size = z.cells.toList) ∧ FldF P b r (off + a.size) (zs.drop a.size)
  | .nil, [], _, zs => zs = []
  | _, _, _, _ => False
end
def isSt : Ty → Bool
  | .st _ => true
  | _ => false
structure TyI (P : Program) (τ : Ty) (T : TypeId) (i : TypeInfo) : Prop where
  info : P.info? T = some i
  size : i.size = τ.size
  bytes : i.bytes ≤ 24 * τ.size
  pos : 0 < τ.size
theorem TyF.info {P : Program} : ∀ {τ : Ty} {T : TypeId}, TyF P τ T → ∃ i d, TyI P τ T i ∧ P.underlying T = some d ∧ (match d with | .struct _ | .array _ _ => true | _ => false) = isSt τ
  | .int _, _, ⟨i, h1, h2, h3, _, h5⟩ => ⟨i, _, ⟨h1, h2, h3, by simp [Ty.size]⟩, h5, rfl⟩
  | .bool, _, ⟨i, h1, h2, h3, _, h5⟩ => ⟨i, _, ⟨h1, h2, h3, by simp [Ty.size]⟩, h5, rfl⟩
  | .str, _, ⟨i, h1, h2, h3, _, h5⟩ => ⟨i, _, ⟨h1, h2, h3, by simp [Ty.size]⟩, h5, rfl⟩
  | .slc _ _, _, ⟨i, _, h1, h2, h3, _, h5, _⟩ => ⟨i, _, ⟨h1, h2, h3, by simp [Ty.size]⟩, h5, rfl⟩
  | .osl _, _, ⟨i, _, h1, h2, h3, _, h5, _⟩ => ⟨i, _, ⟨h1, h2, h3, by simp [Ty.size]⟩, h5, rfl⟩
  | .ptr _ _, _, ⟨i, _, h1, h2, h3, _, h5, _⟩ => ⟨i, _, ⟨h1, h2, h3, by simp [Ty.size]⟩, h5, rfl⟩
  | .optr _, _, ⟨i, _, h1, h2, h3, _, h5, _⟩ => ⟨i, _, ⟨h1, h2, h3, by simp [Ty.size]⟩, h5, rfl⟩
  | .st t, _, ⟨h0, i, _, _, h1, h2, h3, _, h5, _⟩ => ⟨i, _, ⟨h1, h2, h3, h0⟩, h5, rfl⟩
  | .pr _ _, _, h => h.elim
  | .nil, _, h => h.elim
  | .blk, _, h => h.elim
theorem TyF.hasZero {P : Program} : ∀ {τ : Ty} {T : TypeId}, TyF P τ T → ∃ z, z.cells.size = τ.size ∧ ∀ i, P.info? T = some i → i.zero = some z
  | .int _, _, ⟨i, h1, _, _, h4, _⟩ | .bool, _, ⟨i, h1, _, _, h4, _⟩ | .str, _, ⟨i, h1, _, _, h4, _⟩ => ⟨_, rfl, fun j hj => by rw [h1] at hj; cases hj; exact h4⟩
  | .slc _ _, _, ⟨i, _, h1, _, _, h4, _⟩ | .osl _, _, ⟨i, _, h1, _, _, h4, _⟩ | .ptr _ _, _, ⟨i, _, h1, _, _, h4, _⟩ | .optr _, _, ⟨i, _, h1, _, _, h4, _⟩ => ⟨_, rfl, fun j hj => by rw [h1] at hj; cases hj; exact h4⟩
  | .st t, _, ⟨h0, i, _, zs, h1, h2, h3, h4, h5, _, h7⟩ => ⟨.agg zs, h7, fun j hj => by rw [h1] at hj; cases hj; exact h4⟩
  | .pr _ _, _, h => h.elim
  | .nil, _, h => h.elim
  | .blk, _, h => h.elim
section
variable {P : Program} {τ : Ty} {T : TypeId}
theorem TyF.sizeOf (h : TyF P τ T) (w : World) : (Go.sizeOf T).run P w = .ok τ.size w := by
  obtain ⟨i, d, hi, _⟩ := h.info
  simp [Go.sizeOf, typeInfo, hi.info, hi.size]
theorem TyF.isAgg (h : TyF P τ T) (w : World) : (Go.isAgg T).run P w = .ok (isSt τ) w := by
  obtain ⟨i, d, hi, hu, hd⟩ := h.info
  simp only [Go.isAgg, Sem.run_bind, run_underlying hu, Result.andThen_ok]
  rw [← hd]
  cases d <;> rfl
theorem TyF.pos (h : TyF P τ T) : 0 < τ.size := by
  obtain ⟨i, d, hi, _⟩ := h.info
  exact hi.pos
theorem one_of_not_st : ∀ {τ : Ty} {T : TypeId}, TyF P τ T → isSt τ = false → τ.size = 1
  | .int _, _, _, _ | .bool, _, _, _ | .str, _, _, _ | .slc _ _, _, _, _ | .osl _, _, _, _ | .ptr _ _, _, _, _ | .optr _, _, _, _ => rfl
  | .st _, _, _, h => by cases h
  | .pr _ _, _, h, _ => h.elim
  | .nil, _, h, _ => h.elim
  | .blk, _, h, _ => h.elim
theorem regV_of_not_st {cs : List Value} (h : isSt τ = false) : regV τ cs = cs.headD undef := by
  cases τ <;> first | rfl | cases h
theorem regV_of_st {cs : List Value} (h : isSt τ = true) : regV τ cs = .agg cs.toArray := by
  cases τ <;> first | rfl | cases h
theorem regV_cells {cs : List Value} (h : TyF P τ T) (hl : cs.length = τ.size) (h1 : ∀ v ∈ cs, v.oneCell' = true) : (regV τ cs).cells = cs.toArray := by
  cases hs : isSt τ with
  | true => rw [regV_of_st hs]; rfl
  | false =>
    rw [regV_of_not_st hs]
    rw [one_of_not_st h hs] at hl
    obtain ⟨v, rfl⟩ := List.length_eq_one_iff.1 hl
    have := h1 v (by simp)
    cases v <;> first | rfl | (simp [Value.oneCell'] at this)
theorem run_loadVar {w : World} {b o : Nat} {cs : List Value} (h : TyF P τ T) (ha : At w b o cs) (hl : cs.length = τ.size) : (loadVar T ⟨b, o, none⟩).run P w = .ok (regV τ cs) w := by
  simp only [loadVar, Sem.run_bind, h.isAgg, Result.andThen_ok]
  cases hs : isSt τ with
  | true =>
    simp only [if_true, Sem.run_bind, h.sizeOf, Result.andThen_ok]
    rw [← hl, run_loadCells_list w ⟨b, o, none⟩ cs (fun j v hj => by rw [Addr.add_lit]; exact ha j v hj)]
    rw [regV_of_st hs]
    rfl
  | false =>
    rw [one_of_not_st h hs] at hl
    obtain ⟨v, rfl⟩ := List.length_eq_one_iff.1 hl
    have := ha 0 v rfl
    simp only [Nat.add_zero] at this
    rw [regV_of_not_st hs]
    simp [this]
end
def zeroD : (τ : Ty) → Option τ.den
  | .int _ => some (0 : Int)
  | .bool => some false
  | .str => some ByteArray.empty
  | .slc _ _ => some []
  | .osl _ => some []
  | .ptr _ _ => some none
  | .optr _ => none
  | .st t => zeroD t
  | .pr a b => match zeroD a, zeroD b with | some x, some y => some (x, y) | _, _ => none
  | .nil => some ()
  | .blk => none
mutual
theorem zero_rep {P : Program} : ∀ {τ : Ty} {T : TypeId} {z : τ.den}, TyF P τ T → zeroD τ = some z → ∃ i zv, P.info? T = some i ∧ i.zero = some zv ∧ zv = regV τ zv.cells.toList ∧ ∀ (M : Md → Nat → Prop) (w : World), Rep M w τ zv.cells.toList z []
  | .int k, _, z, ⟨i, h1, h2, h3, h4, h5⟩, hz => ⟨i, _, h1, h4, rfl, fun M w => by cases hz; exact ⟨rfl, rfl⟩⟩
  | .bool, _, z, ⟨i, h1, h2, h3, h4, h5⟩, hz => ⟨i, _, h1, h4, rfl, fun M w => by cases hz; exact ⟨rfl, rfl⟩⟩
  | .str, _, z, ⟨i, h1, h2, h3, h4, h5⟩, hz => ⟨i, _, h1, h4, rfl, fun M w => by cases hz; exact ⟨rfl, rfl⟩⟩
  | .slc _ _, _, z, ⟨i, _, h1, h2, h3, h4, h5, _⟩, hz => ⟨i, _, h1, h4, rfl, fun M w => by cases hz; exact ⟨rfl, none, 0, rfl, Nat.le_refl _, fun _ => rfl, .inl rfl⟩⟩
  | .osl _, _, z, ⟨i, _, h1, h2, h3, h4, h5, _⟩, hz => ⟨i, _, h1, h4, rfl, fun M w => by cases hz; exact ⟨none, 0, rfl, .inl ⟨rfl, rfl, rfl, rfl⟩⟩⟩
  | .ptr _ _, _, z, ⟨i, _, h1, h2, h3, h4, h5, _⟩, hz => ⟨i, _, h1, h4, rfl, fun M w => by cases hz; exact ⟨rfl, rfl⟩⟩
  | .optr _, _, _, _, hz => by cases hz
  | .st t, _, z, ⟨_, i, fs, zs, h1, h2, h3, h4, h5, h6, _⟩, hz => ⟨i, _, h1, h4, rfl, fun M w => zero_fld (τ := t) h6 hz M w⟩
  | .pr _ _, _, _, h, _ => h.elim
  | .nil, _, _, h, _ => h.elim
  | .blk, _, _, h, _ => h.elim
theorem zero_fld {P : Program} : ∀ {τ : Ty} {fs : List Field} {off : Nat} {zs : List Value} {z : τ.den}, FldF P τ fs off zs → zeroD τ = some z → ∀ (M : Md → Nat → Prop) (w : World), Rep M w τ zs z []
  | .pr a b, f :: r, off, zs, z, h, hz, M, w => by
      obtain ⟨h1, h2, h3, ⟨i, zv, q1, q2, q3⟩, h4⟩ := h
      simp only [zeroD] at hz
      split at hz
      · rename_i x y hx hy
        cases hz
        obtain ⟨i', zv', r1, r2, _, r3⟩ := zero_rep (τ := a) h2 hx
        rw [q1] at r1
        obtain rfl := Option.some.inj r1
        rw [q2] at r2
        obtain rfl := Option.some.inj r2
        exact ⟨[], [], rfl, by rw [q3]; exact r3 M w, zero_fld (τ := b) h4 hy M w⟩
      · cases hz
  | .nil, [], _, zs, z, h, hz, M, w => ⟨rfl, h⟩
  | .pr _ _, [], _, _, _, h, _, _, _ => h.elim
  | .nil, _ :: _, _, _, _, h, _, _, _ => h.elim
  | .int _, _, _, _, _, h, _, _, _ => by cases h
  | .bool, _, _, _, _, h, _, _, _ => by cases h
  | .str, _, _, _, _, h, _, _, _ => by cases h
  | .slc _ _, _, _, _, _, h, _, _, _ => by cases h
  | .osl _, _, _, _, _, h, _, _, _ => by cases h
  | .ptr _ _, _, _, _, _, h, _, _, _ => by cases h
  | .optr _, _, _, _, _, h, _, _, _ => by cases h
  | .st _, _, _, _, _, h, _, _, _ => by cases h
  | .blk, _, _, _, _, h, _, _, _ => by cases h
end
def sameLay : Ty → Ty → Bool
  | .int k, .int k' => if k = k' then true else false
  | .bool, .bool | .str, .str | .nil, .nil => true
  | .slc _ t, .slc _ u | .slc _ t, .osl u | .osl t, .slc _ u | .osl t, .osl u => sameLay t u
  | .ptr _ t, .ptr _ u | .ptr _ t, .optr u | .optr t, .ptr _ u | .optr t, .optr u => sameLay t u
  | .st t, .st u => sameLay t u
  | .pr a b, .pr c d => sameLay a c && sameLay b d
  | _, _ => false
theorem sameLay.size : ∀ {τ υ : Ty}, sameLay τ υ = true → τ.size = υ.size := by
  intro τ
  induction τ with
  | st t ih => intro υ h; cases υ <;> simp only [sameLay] at h <;> first | (simp only [Ty.size]; exact ih h) | cases h
  | pr a b iha ihb =>
    intro υ h
    cases υ <;> simp only [sameLay] at h <;> try (cases h; done)
    simp only [Bool.and_eq_true] at h
    simp only [Ty.size]; rw [iha h.1, ihb h.2]
  | _ => intro υ h; cases υ <;> simp [sameLay] at h <;> simp [Ty.size]
mutual
theorem TyF.lay {P : Program} : ∀ {τ υ : Ty} {T : TypeId}, sameLay τ υ = true → TyF P τ T → TyF P υ T
  | .int k, υ, _, hs, h => by
      cases υ <;> simp [sameLay] at hs
      subst hs; exact h
  | .bool, υ, _, hs, h => by cases υ <;> simp [sameLay] at hs; exact h
  | .str, υ, _, hs, h => by cases υ <;> simp [sameLay] at hs; exact h
  | .slc _ t, υ, _, hs, h => by
      obtain ⟨i, E, h1, h2, h3, h4, h5, h6⟩ := h
      cases υ <;> simp only [sameLay] at hs <;> first | exact ⟨i, E, h1, h2, h3, h4, h5, TyF.lay hs h6⟩ | cases hs
  | .osl t, υ, _, hs, h => by
      obtain ⟨i, E, h1, h2, h3, h4, h5, h6⟩ := h
      cases υ <;> simp only [sameLay] at hs <;> first | exact ⟨i, E, h1, h2, h3, h4, h5, TyF.lay hs h6⟩ | cases hs
  | .ptr _ t, υ, _, hs, h => by
      obtain ⟨i, E, h1, h2, h3, h4, h5, h6⟩ := h
      cases υ <;> simp only [sameLay] at hs <;> first | exact ⟨i, E, h1, h2, h3, h4, h5, TyF.lay hs h6⟩ | cases hs
  | .optr t, υ, _, hs, h => by
      obtain ⟨i, E, h1, h2, h3, h4, h5, h6⟩ := h
      cases υ <;> simp only [sameLay] at hs <;> first | exact ⟨i, E, h1, h2, h3, h4, h5, TyF.lay hs h6⟩ | cases hs
  | .st t, υ, _, hs, h => by
      obtain ⟨h0, i, fs, zs, h1, h2, h3, h4, h5, h6, h7⟩ := h
      cases υ <;> simp only [sameLay] at hs <;> try (cases hs; done)
      have := sameLay.size hs
      exact ⟨by omega, i, fs, zs, h1, by omega, by omega, h4, h5, FldF.lay hs h6, by omega⟩
  | .pr _ _, _, _, _, h => h.elim
  | .nil, _, _, _, h => h.elim
  | .blk, _, _, _, h => h.elim
theorem FldF.lay {P : Program} : ∀ {τ υ : Ty} {fs : List Field} {off : Nat} {zs : List Value}, sameLay τ υ = true → FldF P τ fs off zs → FldF P υ fs off zs
  | .pr a b, υ, f :: r, off, zs, hs, h => by
      obtain ⟨h1, h2, h3, h4, h5⟩ := h
      cases υ <;> simp only [sameLay] at hs <;> try (cases hs; done)
      simp only [Bool.and_eq_true] at hs
      have := sameLay.size hs.1
      exact ⟨h1, TyF.lay hs.1 h2, by omega, by rw [← this]; exact h4, by rw [← this]; exact FldF.lay hs.2 h5⟩
  | .nil, υ, [], _, _, hs, h => by cases υ <;> simp [sameLay] at hs; exact h
  | .pr _ _, _, [], _, _, _, h => h.elim
  | .nil, _, _ :: _, _, _, _, h => h.elim
  | .int _, _, _, _, _, _, h => by cases h
  | .bool, _, _, _, _, _, h => by cases h
  | .str, _, _, _, _, _, h => by cases h
  | .slc _ _, _, _, _, _, _, h => by cases h
  | .osl _, _, _, _, _, _, h => by cases h
  | .ptr _ _, _, _, _, _, _, h => by cases h
  | .optr _, _, _, _, _, _, h => by cases h
  | .st _, _, _, _, _, _, h => by cases h
  | .blk, _, _, _, _, _, h => by cases h
end
structure Env where
  P : Program
  tt : List (TypeId × Ty)
  ok : ∀ T τ, lk tt T = some τ → TyF P τ T
  mix : P.follows .mixedOrders = true
end Go.Fw
end

section
namespace Go.Fw
def lim : Nat := 4294967296
def getI {α : Type} (xs : List α) (i : Int) : Option α := if 0 ≤ i then xs[i.toNat]? else none
theorem getI_some {α : Type} {xs : List α} {i : Int} {y : α} (h : getI xs i = some y) : i = (i.toNat : Int) ∧ i.toNat < xs.length ∧ xs[i.toNat]? = some y := by
  unfold getI at h
  split at h
  · exact ⟨by omega, (List.getElem?_eq_some_iff.1 h).1, h⟩
  · cases h
inductive Res where
  | tot (av : AV) (new : List (Nat × Tree))
  | part (α : Type) (φ : α → Prop) (f : α → AV × List (Nat × Tree))
  | bad
def Res.K (r : Res) (Q : AV → List (Nat × Tree) → Prop) : Prop :=
  match r with
  | .tot av new => Q av new
  | .part α φ f => ∃ y : α, φ y ∧ Q (f y).1 (f y).2
  | .bad => False
def Ty.pure : Ty → Bool
  | .osl _ | .optr _ | .blk => false
  | .st t => t.pure
  | .pr a b => a.pure && b.pure
  | _ => true
def tyAt : Ty → List Step → Option Ty
  | τ, [] => some τ
  | .osl t, .idx _ :: p => tyAt t p
  | .optr t, .deref :: p => tyAt t p
  | .st t, .unst :: p => tyAt t p
  | .pr a _, .fst :: p => tyAt a p
  | .pr _ b, .snd :: p => tyAt b p
  | _, _ => none
def fldSteps : Ty → Nat → Option (List Step × Ty)
  | .pr a _, 0 => some ([.fst], a)
  | .pr _ b, n + 1 => match fldSteps b n with | some q => some (.snd :: q.1, q.2) | none => none
  | _, _ => none
def fldOff : Ty → Nat → Nat
  | .pr _ _, 0 => 0
  | .pr a b, n + 1 => a.size + fldOff b n
  | _, _ => 0
def fldV : (τ : Ty) → τ.den → Nat → Option Tree
  | .pr a _, x, 0 => some ⟨a, x.1⟩
  | .pr _ b, x, n + 1 => fldV b x.2 n
  | _, _, _ => none
theorem fldF_get {P : Program} : ∀ {τ : Ty} {fs : List Field} {off : Nat} {zs : List Value} {n : Nat} {s : List Step} {τf : Ty}, FldF P τ fs off zs → fldSteps τ n = some (s, τf) →
    ∃ f, fs[n]? = some f ∧ f.offset = off + fldOff τ n ∧ TyF P τf f.type
  | .pr a b, f :: r, off, zs, 0, s, τf, h, hn => by
      simp only [fldSteps, Option.some.injEq, Prod.mk.injEq] at hn
      obtain ⟨rfl, rfl⟩ := hn
      exact ⟨f, rfl, by rw [h.1]; rfl, h.2.1⟩
  | .pr a b, f :: r, off, zs, n + 1, s, τf, h, hn => by
      simp only [fldSteps] at hn
      split at hn
      · rename_i q hq
        simp only [Option.some.injEq, Prod.mk.injEq] at hn
        obtain ⟨rfl, rfl⟩ := hn
        obtain ⟨f', h1, h2, h3⟩ := fldF_get (τ := b) h.2.2.2.2 (s := q.1) (τf := q.2) hq
        exact ⟨f', by simpa using h1, by rw [h2]; simp only [fldOff]; omega, h3⟩
      · cases hn
  | .pr _ _, [], _, _, _, _, _, h, _ => h.elim
  | .int _, _, _, _, _, _, _, _, hn => by cases hn
  | .bool, _, _, _, _, _, _, _, hn => by cases hn
  | .str, _, _, _, _, _, _, _, hn => by cases hn
  | .slc _ _, _, _, _, _, _, _, _, hn => by cases hn
  | .osl _, _, _, _, _, _, _, _, hn => by cases hn
  | .ptr _ _, _, _, _, _, _, _, _, hn => by cases hn
  | .optr _, _, _, _, _, _, _, _, hn => by cases hn
  | .st _, _, _, _, _, _, _, _, hn => by cases hn
  | .nil, _, _, _, _, _, _, _, hn => by cases hn
  | .blk, _, _, _, _, _, _, _, hn => by cases hn
theorem fldV_steps : ∀ {τ : Ty} {x : τ.den} {n : Nat} {t : Tree}, fldV τ x n = some t → ∃ s, fldSteps τ n = some (s, t.1)
  | .pr a b, x, 0, t, h => by simp only [fldV, Option.some.injEq] at h; subst h; exact ⟨_, rfl⟩
  | .pr a b, x, n + 1, t, h => by
      obtain ⟨s, hs⟩ := fldV_steps (τ := b) h
      exact ⟨.snd :: s, by simp [fldSteps, hs]⟩
  | .int _, _, _, _, h => by cases h
  | .bool, _, _, _, h => by cases h
  | .str, _, _, _, h => by cases h
  | .slc _ _, _, _, _, h => by cases h
  | .osl _, _, _, _, h => by cases h
  | .ptr _ _, _, _, _, h => by cases h
  | .optr _, _, _, _, h => by cases h
  | .st _, _, _, _, h => by cases h
  | .nil, _, _, _, h => by cases h
  | .blk, _, _, _, h => by cases h
theorem fldSteps_le : ∀ {τ : Ty} {n : Nat} {s : List Step} {tf : Ty}, fldSteps τ n = some (s, tf) → fldOff τ n + tf.size ≤ τ.size
  | .pr a b, 0, s, tf, h => by
      simp only [fldSteps, Option.some.injEq, Prod.mk.injEq] at h
      obtain ⟨_, rfl⟩ := h
      simp [fldOff, Ty.size]
  | .pr a b, n + 1, s, tf, h => by
      simp only [fldSteps] at h
      split at h
      · rename_i q hq
        simp only [Option.some.injEq, Prod.mk.injEq] at h
        obtain ⟨_, rfl⟩ := h
        have := fldSteps_le (τ := b) (s := q.1) (tf := q.2) hq
        simp only [fldOff, Ty.size]; omega
      · cases h
  | .int _, _, _, _, h => by cases h
  | .bool, _, _, _, h => by cases h
  | .str, _, _, _, h => by cases h
  | .slc _ _, _, _, _, h => by cases h
  | .osl _, _, _, _, h => by cases h
  | .ptr _ _, _, _, _, h => by cases h
  | .optr _, _, _, _, h => by cases h
  | .st _, _, _, _, h => by cases h
  | .nil, _, _, _, h => by cases h
  | .blk, _, _, _, h => by cases h
theorem fldV_rep {M : Md → Nat → Prop} {w : World} : ∀ {τ : Ty} {x : τ.den} {n : Nat} {t : Tree} {cs : List Value}, Rep M w τ cs x [] → fldV τ x n = some t →
    Rep M w t.1 ((cs.drop (fldOff τ n)).take t.1.size) t.2 [] ∧ fldOff τ n + t.1.size ≤ τ.size
  | .pr a b, x, 0, t, cs, hr, h => by
      simp only [fldV, Option.some.injEq] at h; subst h
      obtain ⟨f1, f2, hf, h1, h2⟩ := hr
      obtain ⟨rfl, rfl⟩ : f1 = [] ∧ f2 = [] := by simpa [eq_comm] using hf
      exact ⟨by simpa [fldOff] using h1, by simp [fldOff, Ty.size]⟩
  | .pr a b, x, n + 1, t, cs, hr, h => by
      obtain ⟨f1, f2, hf, h1, h2⟩ := hr
      obtain ⟨rfl, rfl⟩ : f1 = [] ∧ f2 = [] := by simpa [eq_comm] using hf
      obtain ⟨h3, h4⟩ := fldV_rep (τ := b) h2 h
      refine ⟨?_, by simp only [fldOff, Ty.size]; omega⟩
      simp only [fldOff]
      rwa [List.drop_drop] at h3
  | .int _, _, _, _, _, _, h => by cases h
  | .bool, _, _, _, _, _, h => by cases h
  | .str, _, _, _, _, _, h => by cases h
  | .slc _ _, _, _, _, _, _, h => by cases h
  | .osl _, _, _, _, _, _, h => by cases h
  | .ptr _ _, _, _, _, _, _, h => by cases h
  | .optr _, _, _, _, _, _, h => by cases h
  | .st _, _, _, _, _, _, h => by cases h
  | .nil, _, _, _, _, _, h => by cases h
  | .blk, _, _, _, _, _, h => by cases h
theorem Nav.nil_iff {w : World} {τ τ' : Ty} {l l' : Loc} {cs cs' : List Value} : Nav w τ l cs [] τ' l' cs' ↔ τ = τ' ∧ l = l' ∧ cs = cs' := by cases τ <;> exact Iff.rfl
theorem Nav.append {w : World} : ∀ {p q : List Step} {τ τ1 τ2 : Ty} {l l1 l2 : Loc} {cs c1 c2 : List Value}, Nav w τ l cs p τ1 l1 c1 → Nav w τ1 l1 c1 q τ2 l2 c2 → Nav w τ l cs (p ++ q) τ2 l2 c2
  | [], q, τ, _, _, _, _, _, _, _, _, h, h' => by
      obtain ⟨rfl, rfl, rfl⟩ := Nav.nil_iff.1 h
      exact h'
  | s :: p, q, τ, _, _, _, _, _, _, _, _, h, h' => by
      cases τ <;> cases s <;> simp only [Nav] at h
      case osl.idx t i =>
        obtain ⟨b, o, len, cap, ds, h1, h2, h3, h4, h5⟩ := h
        exact ⟨b, o, len, cap, ds, h1, h2, h3, h4, h5.append h'⟩
      case optr.deref t =>
        obtain ⟨b, o, ds, h1, h2, h3, h4⟩ := h
        exact ⟨b, o, ds, h1, h2, h3, h4.append h'⟩
      case st.unst t => exact Nav.append (p := p) (τ := t) h h'
      case pr.fst t1 t2 => exact Nav.append (p := p) (τ := t1) h h'
      case pr.snd t1 t2 => exact Nav.append (p := p) (τ := t2) h h'
theorem Nav.here {w : World} {τ : Ty} {l : Loc} {cs : List Value} : Nav w τ l cs [] τ l cs := by cases τ <;> exact ⟨rfl, rfl, rfl⟩
theorem Nav.ty {w : World} : ∀ {p : List Step} {τ τ' : Ty} {l l' : Loc} {cs cs' : List Value}, Nav w τ l cs p τ' l' cs' → tyAt τ p = some τ'
  | [], τ, _, _, _, _, _, h => by
      obtain ⟨rfl, _⟩ := Nav.nil_iff.1 h
      cases τ <;> rfl
  | s :: p, τ, _, _, _, _, _, h => by
      cases τ <;> cases s <;> simp only [Nav] at h
      case osl.idx t i => obtain ⟨b, o, len, cap, ds, h1, h2, h3, h4, h5⟩ := h; exact h5.ty
      case optr.deref t => obtain ⟨b, o, ds, h1, h2, h3, h4⟩ := h; exact h4.ty
      case st.unst t => exact Nav.ty (p := p) (τ := t) h
      case pr.fst t1 t2 => exact Nav.ty (p := p) (τ := t1) h
      case pr.snd t1 t2 => exact Nav.ty (p := p) (τ := t2) h
theorem Nav.at {w : World} : ∀ {p : List Step} {τ τ' : Ty} {l l' : Loc} {cs cs' : List Value}, Nav w τ l cs p τ' l' cs' → cs.length = τ.size → (∀ b o, l = some (b, o) → At w b o cs) →
    cs'.length = τ'.size ∧ ∀ b o, l' = some (b, o) → At w b o cs'
  | [], τ, _, _, _, _, _, h, hl, ha => by
      obtain ⟨rfl, rfl, rfl⟩ := Nav.nil_iff.1 h
      exact ⟨hl, ha⟩
  | s :: p, τ, _, l, _, cs, _, h, hl, ha => by
      cases τ <;> cases s <;> simp only [Nav] at h
      case osl.idx t i =>
        obtain ⟨b, o, len, cap, ds, h1, h2, h3, h4, h5⟩ := h
        exact h5.at h3 (fun b' o' e => by simp only [Option.some.injEq, Prod.mk.injEq] at e; obtain ⟨rfl, rfl⟩ := e; exact h4)
      case optr.deref t =>
        obtain ⟨b, o, ds, h1, h2, h3, h4⟩ := h
        exact h4.at h2 (fun b' o' e => by simp only [Option.some.injEq, Prod.mk.injEq] at e; obtain ⟨rfl, rfl⟩ := e; exact h3)
      case st.unst t => exact Nav.at (τ := t) h hl ha
      case pr.fst a b =>
        exact Nav.at (τ := a) h (by simp only [Ty.size] at hl; simp; omega) (fun b o e => (ha b o e).take)
      case pr.snd a b =>
        refine Nav.at (τ := b) h (by simp only [Ty.size] at hl; simp; omega) (fun b' o e => ?_)
        cases l with
        | none => simp at e
        | some q =>
          simp only [Option.map_some, Option.some.injEq, Prod.mk.injEq] at e
          obtain ⟨rfl, rfl⟩ := e
          exact (ha _ _ rfl).drop
theorem Nav.fld {w : World} : ∀ {τ : Ty} {n : Nat} {s : List Step} {τf : Ty} {l : Loc} {cs : List Value}, fldSteps τ n = some (s, τf) →
    Nav w τ l cs s τf (l.map fun q => (q.1, q.2 + fldOff τ n)) ((cs.drop (fldOff τ n)).take τf.size)
  | .pr a b, 0, s, τf, l, cs, h => by
      simp only [fldSteps, Option.some.injEq, Prod.mk.injEq] at h
      obtain ⟨rfl, rfl⟩ := h
      have : (l.map fun q => (q.1, q.2 + fldOff (.pr a b) 0)) = l := by cases l <;> simp [fldOff]
      rw [this]
      simp only [Nav, fldOff, List.drop_zero]
      first | exact Nav.here | exact ⟨rfl, rfl, rfl⟩ | trivial | simp
  | .pr a b, n + 1, s, τf, l, cs, h => by
      simp only [fldSteps] at h
      split at h
      · rename_i q hq
        simp only [Option.some.injEq, Prod.mk.injEq] at h
        obtain ⟨rfl, rfl⟩ := h
        have := Nav.fld (w := w) (τ := b) (s := q.1) (τf := q.2) (l := l.map fun q => (q.1, q.2 + a.size)) (cs := cs.drop a.size) hq
        simp only [Nav, fldOff]
        rw [List.drop_drop] at this
        cases l with
        | none => exact this
        | some q0 => simp only [Option.map_some, Nat.add_assoc] at this ⊢; exact this
      · cases h
  | .int _, _, _, _, _, _, hn => by cases hn
  | .bool, _, _, _, _, _, hn => by cases hn
  | .str, _, _, _, _, _, hn => by cases hn
  | .slc _ _, _, _, _, _, _, hn => by cases hn
  | .osl _, _, _, _, _, _, hn => by cases hn
  | .ptr _ _, _, _, _, _, _, hn => by cases hn
  | .optr _, _, _, _, _, _, hn => by cases hn
  | .st _, _, _, _, _, _, hn => by cases hn
  | .nil, _, _, _, _, _, hn => by cases hn
  | .blk, _, _, _, _, _, hn => by cases hn
theorem GetP.uniq : ∀ {p : List Step} {τ : Ty} {x : τ.den} {τ' : Ty} {y y' : τ'.den}, GetP τ x p τ' y → GetP τ x p τ' y' → y = y'
  | [], τ, _, _, _, _, h, h' => by
      obtain ⟨rfl, h⟩ := GetP.nil_iff.1 h
      obtain ⟨_, h'⟩ := GetP.nil_iff.1 h'
      exact h.symm.trans h'
  | s :: p, τ, _, _, _, _, h, h' => by
      cases τ <;> cases s <;> simp only [GetP] at h h'
      case osl.idx =>
        obtain ⟨e, he, h⟩ := h
        obtain ⟨e', he', h'⟩ := h'
        rw [he] at he'
        obtain rfl := Option.some.inj he'
        exact h.uniq h'
      case optr.deref => exact GetP.uniq (p := p) h h'
      case st.unst => exact GetP.uniq (p := p) h h'
      case pr.fst => exact GetP.uniq (p := p) h h'
      case pr.snd => exact GetP.uniq (p := p) h h'
def Yields (E : Env) (C : Ctx) (st : St) (a : Act) (w : World) (I : Nat → Prop) (rt : Nat → List Value) (fp : Nat → List Nat) (o : Oper) (Q : AV → List (Nat × Tree) → Prop) : Prop :=
  ∃ v w' I' rtn fpn av new, (execOp a.eval o).run E.P w = .ok (.value v) w' ∧ Grew w w' ∧ (∀ b, I b → I' b) ∧ (∀ b, I' b → I b ∨ (w.heap.size ≤ b ∧ b < w'.heap.size)) ∧
    NewOk C st w w' I' new rtn fpn ∧ AVok (md I' C.B) w' (new ++ st.h) (mixv new rtn rt) (mixv new fpn fp) av v ∧ Q av new
section
variable {E : Env} {C : Ctx} {st : St} {a : Act} {w : World} {I : Nat → Prop} {rt : Nat → List Value} {fp : Nat → List Nat} {o : Oper} {Q : AV → List (Nat × Tree) → Prop}
theorem Yields.pure {v : Value} {av : AV} (hr : (execOp a.eval o).run E.P w = .ok (.value v) w) (hv : AVok (md I C.B) w st.h rt fp av v) (hq : Q av []) : Yields E C st a w I rt fp o Q :=
  ⟨v, w, I, rt, fp, av, [], hr, .refl w, fun _ h => h, fun _ h => .inl h, .nil, hv, hq⟩
theorem Yields.wp (hR : RelAt C st a.tmps w I rt fp) (h : Yields E C st a w I rt fp o Q) {next : Act → World → Prop} {X : Exit → Act → World → Prop} {d : Nat} (hd : o.dst = some d) (hdn : C.ok d)
    (hn : ∀ av new a' w', Q av new → a'.defers = a.defers → Rel C ⟨(d, av) :: st.g, new ++ st.h⟩ a'.tmps w' → next a' w') : o.wp E.P a w next X := by
  obtain ⟨v, w', I', rtn, fpn, av, new, h1, h2, h3, h4, h5, h6, h7⟩ := h
  unfold Oper.wp
  rw [h1]
  show next (a.put o.dst v) w'
  rw [hd]
  exact hn av new _ _ h7 rfl ⟨I', _, _, (hR.ext h2 h3 h4 h5).put hdn h6⟩
def binI (op : BinOp) (k : IntKind) (x : Int) (k' : IntKind) (y : Int) : Res :=
  let z (p : Prop) (r : Int) : Res := if k = k' then .part Int (fun z => p ∧ r = z) (fun z => (.val (.int k) z, [])) else .bad
  let b (r : Bool) : Res := if k = k' then .tot (.val .bool r) [] else .bad
  match op with
  | .add => z True (k.wrap (x + y))
  | .sub => z True (k.wrap (x - y))
  | .mul => z True (k.wrap (x * y))
  | .quo => z (y ≠ 0) (k.wrap (x.tdiv y))
  | .rem => z (y ≠ 0) (x.tmod y)
  | .and => z True (k.wrap (BitVec.ofInt k.bits x &&& BitVec.ofInt k.bits y).toNat)
  | .or => z True (k.wrap (BitVec.ofInt k.bits x ||| BitVec.ofInt k.bits y).toNat)
  | .xor => z True (k.wrap (BitVec.ofInt k.bits x ^^^ BitVec.ofInt k.bits y).toNat)
  | .andNot => z True (k.wrap (BitVec.ofInt k.bits x &&& ~~~BitVec.ofInt k.bits y).toNat)
  | .shl => .part Int (fun z => 0 ≤ y ∧ k.wrap (x * 2 ^ min y.toNat k.bits) = z) (fun z => (.val (.int k) z, []))
  | .shr => .part Int (fun z => 0 ≤ y ∧ x.fdiv (2 ^ min y.toNat k.bits) = z) (fun z => (.val (.int k) z, []))
  | .eql => b (x == y)
  | .neq => b (x != y)
  | .lss => b (decide (x < y))
  | .leq => b (decide (x ≤ y))
  | .gtr => b (decide (x > y))
  | .geq => b (decide (x ≥ y))
def binF (op : BinOp) (x y : AV) : Res :=
  match x, y with
  | .val (.int k) x, .val (.int k') y => binI op k x k' y
  | .val .bool x, .val .bool y => match op with
    | .eql => .tot (.val .bool (x == y)) []
    | .neq => .tot (.val .bool (!(x == y))) []
    | _ => .bad
  | _, _ => .bad
theorem binI_sound {op : BinOp} {t u : TypeId} {x y : Operand} {k k' : IntKind} {m n : Int} (ho : o.op = .binOp op t x y u) (hx : a.eval x = .int k m) (hy : a.eval y = .int k' n) (h : (binI op k m k' n).K Q) :
    Yields E C st a w I rt fp o Q := by
  have hg : ∀ w, (eqGuard op t x y (.int k m) (.int k' n)).run E.P w = .ok () w := fun w => by
    unfold eqGuard
    cases op <;> simp
  have shl : op = .shl → Yields E C st a w I rt fp o Q := by
    rintro rfl
    simp only [binI] at h
    obtain ⟨z, ⟨h0, rfl⟩, h⟩ := h
    exact .pure (v := .int k _) (by simp [execOp, ho, hx, hy, hg, binOp, Op.shift, show ¬ n < 0 by omega]) (.int k _) h
  have shr : op = .shr → Yields E C st a w I rt fp o Q := by
    rintro rfl
    simp only [binI] at h
    obtain ⟨z, ⟨h0, rfl⟩, h⟩ := h
    exact .pure (v := .int k _) (by simp [execOp, ho, hx, hy, hg, binOp, Op.shift, show ¬ n < 0 by omega]) (.int k _) h
  by_cases hk : k = k'
  case neg =>
    cases op <;> simp only [binI, hk, if_false] at h
    case shl => exact shl rfl
    case shr => exact shr rfl
    all_goals exact h.elim
  subst hk
  cases op <;> simp only [binI, if_true] at h
  case shl => exact shl rfl
  case shr => exact shr rfl
  case quo | rem =>
    obtain ⟨z, ⟨h0, rfl⟩, h⟩ := h
    exact .pure (v := .int k _) (by simp [execOp, ho, hx, hy, hg, binOp, Op.intDiv, h0]) (.int k _) h
  case add | sub | mul =>
    obtain ⟨z, ⟨_, rfl⟩, h⟩ := h
    exact .pure (v := .int k _) (by simp [execOp, ho, hx, hy, hg, binOp, Op.intArith]) (.int k _) h
  case and | or | xor | andNot =>
    obtain ⟨z, ⟨_, rfl⟩, h⟩ := h
    exact .pure (v := .int k _) (by simp only [execOp, ho, hx, hy, Sem.run_bind, hg, binOp, Op.intBits]; simp) (.int k _) h
  all_goals exact .pure (v := .bool _) (by simp [execOp, ho, hx, hy, hg, binOp, Op.intCmp]) (.bool _) h
theorem run_equalIn_bool {P : Program} (w : World) (d : Nat) {t : TypeId} (p q : Bool) (h : P.underlying t = some .bool) : (Op.equalIn (d + 1) t (.bool p) (.bool q)).run P w = .ok (p == q) w := by
  simp [Op.equalIn, run_underlying h]
theorem run_eql_bool {P : Program} (w : World) {t : TypeId} (p q : Bool) (h : P.underlying t = some .bool) : (binOp .eql t (.bool p) (.bool q)).run P w = .ok (.bool (p == q)) w := by
  simp only [binOp]
  simp [Op.equal, Op.maxDepth, run_equalIn_bool w 9999 p q h]
theorem run_neq_bool {P : Program} (w : World) {t : TypeId} (p q : Bool) (h : P.underlying t = some .bool) : (binOp .neq t (.bool p) (.bool q)).run P w = .ok (.bool (!(p == q))) w := by
  simp only [binOp]
  simp [Op.equal, Op.maxDepth, run_equalIn_bool w 9999 p q h]
theorem binF_sound (hR : RelAt C st a.tmps w I rt fp) {op : BinOp} {t u : TypeId} {x y : Operand} (ho : o.op = .binOp op t x y u)  (hb : ∀ p q : Bool, (op = .eql ∨ op = .neq) → (opA st.g x = .val .bool p ∧ opA st.g y = .val .bool q) → E.P.underlying t = some .bool)
    (h : (binF op (opA st.g x) (opA st.g y)).K Q) : Yields E C st a w I rt fp o Q := by
  have hx := hR.opA x
  have hy := hR.opA y
  unfold binF at h
  split at h
  · rename_i k m k' n ex ey
    rw [ex] at hx; rw [ey] at hy
    obtain ⟨v, hv⟩ : ∃ v, v = a.eval x := ⟨_, rfl⟩
    obtain ⟨u', hu⟩ : ∃ v, v = a.eval y := ⟨_, rfl⟩
    rw [← hv] at hx; rw [← hu] at hy
    cases hx with | val r1 => cases hy with | val r2 =>
    obtain ⟨_, rfl⟩ := r1
    obtain ⟨_, rfl⟩ := r2
    exact binI_sound ho hv.symm hu.symm h
  · rename_i p q ex ey
    have hu := hb p q
    have hxy : opA st.g x = .val .bool p ∧ opA st.g y = .val .bool q := ⟨ex, ey⟩
    rw [ex] at hx; rw [ey] at hy
    obtain ⟨v, hv⟩ : ∃ v, v = a.eval x := ⟨_, rfl⟩
    obtain ⟨u', hu'⟩ : ∃ v, v = a.eval y := ⟨_, rfl⟩
    rw [← hv] at hx; rw [← hu'] at hy
    cases hx with | val r1 => cases hy with | val r2 =>
    obtain ⟨_, rfl⟩ := r1
    obtain ⟨_, rfl⟩ := r2
    have hv' : a.eval x = .bool p := hv.symm
    have hu2 : a.eval y = .bool q := hu'.symm
    have hg : ∀ w, (eqGuard op t x y (.bool p) (.bool q)).run E.P w = .ok () w := fun w => by
      unfold eqGuard
      cases op <;> simp
    split at h
    · have := hu (.inl rfl) hxy
      exact .pure (v := .bool _) (by simp only [execOp, ho, hv', hu2, Sem.run_bind, hg, Result.andThen_ok, run_eql_bool _ _ _ this]; rfl) (.bool _) h
    · have := hu (.inr rfl) hxy
      exact .pure (v := .bool _) (by simp only [execOp, ho, hv', hu2, Sem.run_bind, hg, Result.andThen_ok, run_neq_bool _ _ _ this]; rfl) (.bool _) h
    · exact h.elim
  · exact h.elim
end
end Go.Fw
end

section
namespace Go.Fw
section
variable {E : Env} {C : Ctx} {st : St} {a : Act} {w : World} {I : Nat → Prop} {rt : Nat → List Value} {fp : Nat → List Nat} {o : Oper} {Q : AV → List (Nat × Tree) → Prop}
theorem RelAt.notM {tm : Array Value} (hR : RelAt C st tm w I rt fp) {id : Nat} {t : Tree} (ht : lk st.h id = some t) : ∀ b ∈ fp id, ∀ m, ¬ md I C.B m b := fun b hb m hm => by
  have := (hR.tree id t ht).2.2 b hb
  rcases md_or hm with h | h
  · exact this.1 h
  · exact this.2.1 h
theorem RelAt.getP {tm : Array Value} (hR : RelAt C st tm w I rt fp) {id : Nat} {t : Tree} (ht : lk st.h id = some t) {p : List Step} {τ : Ty} {y : τ.den} (hg : GetP t.1 t.2 p τ y) {τ' : Ty} {loc : Loc} {cs : List Value}
    (hn : Nav w t.1 none (rt id) p τ' loc cs) : ∃ _e : τ' = τ, ∃ f, Rep (md I C.B) w τ cs y f ∧ LocOk w loc cs τ.size ∧ ∀ b ∈ f, b ∈ fp id := by
  obtain ⟨hr, hnd, _⟩ := hR.tree id t ht
  obtain ⟨loc', cs', f, rest, g1, g2, g3, g4, _⟩ := focus p (loc := none) hr (fun _ _ h => by cases h) hnd (fun _ _ h => by cases h) (hR.notM ht) hg
  obtain ⟨rfl, rfl, rfl⟩ := hn.det g1
  exact ⟨rfl, f, g2, g3, fun b hb => g4.mem_iff.2 (by simp [hb])⟩
theorem RelAt.rootLen {tm : Array Value} (hR : RelAt C st tm w I rt fp) {id : Nat} {t : Tree} (ht : lk st.h id = some t) {p : List Step} {τ' : Ty} {loc : Loc} {cs : List Value}
    (hn : Nav w t.1 none (rt id) p τ' loc cs) : cs.length = τ'.size ∧ ∀ b o, loc = some (b, o) → At w b o cs := hn.at (hR.tree id t ht).1.len (fun _ _ h => by cases h)
theorem navOptr {M : Md → Nat → Prop} : ∀ {p : List Step} {τ : Ty} {l : Loc} {cs : List Value} {x : τ.den} {f : List Nat} {t : Ty} {l' : Loc} {cs' : List Value}, Rep M w τ cs x f → Nav w τ l cs p (.optr t) l' cs' →
    ∃ b o ds, cs' = [.pointer (some ⟨b, o, none⟩)] ∧ ds.length = t.size ∧ At w b o ds
  | [], τ, _, _, _, _, _, _, _, hr, hn => by
      obtain ⟨rfl, rfl, rfl⟩ := Nav.nil_iff.1 hn
      obtain ⟨b, o, f, ds, h1, _, h3, h4, _⟩ := hr
      exact ⟨b, o, ds, h1, h3, h4⟩
  | s :: p, τ, _, cs, x, f, _, _, _, hr, hn => by
      cases τ <;> cases s <;> simp only [Nav] at hn
      case osl.idx t i =>
        obtain ⟨b, o, len, cap, ds, rfl, h2, h3, h4, h5⟩ := hn
        obtain ⟨ad, cap', e, hr⟩ := hr
        simp only [List.cons.injEq, Value.slice.injEq, and_true] at e
        obtain ⟨rfl, rfl, rfl⟩ := e
        rcases hr with ⟨h0, _⟩ | ⟨b', o', fps, h0, _, q1, q2, q3, q4⟩
        · cases h0
        cases h0
        obtain ⟨ds', d1, d2, d3⟩ := q4 i x[i] (fps[i]'(by omega)) (by simp) (by simp)
        obtain rfl := h4.eq d2 (by omega)
        exact navOptr (p := p) d3 h5
      case optr.deref t =>
        obtain ⟨b, o, ds, rfl, h3, h4, h5⟩ := hn
        obtain ⟨b', o', f, ds', e, _, h3', h4', _, h6⟩ := hr
        simp only [List.cons.injEq, Value.pointer.injEq, Option.some.injEq, Addr.mk.injEq, and_true] at e
        obtain ⟨rfl, rfl⟩ := e
        obtain rfl := h4.eq h4' (by omega)
        exact navOptr (p := p) h6 h5
      case st.unst t => exact navOptr (p := p) (τ := t) hr hn
      case pr.fst t1 t2 => obtain ⟨f1, f2, _, h1, _⟩ := hr; exact navOptr (p := p) (τ := t1) h1 hn
      case pr.snd t1 t2 => obtain ⟨f1, f2, _, _, h2⟩ := hr; exact navOptr (p := p) (τ := t2) h2 hn
def isSlcT (tt : List (TypeId × Ty)) (T : TypeId) : Option Ty := match lk tt T with | some (.slc _ t) => some t | _ => none
def isStT (tt : List (TypeId × Ty)) (T : TypeId) : Option Ty := match lk tt T with | some (.st t) => some t | _ => none
theorem isSlcT.ok {T : TypeId} {t : Ty} (h : isSlcT E.tt T = some t) : ∃ i S, E.P.info? T = some i ∧ E.P.underlying T = some (.slice S) ∧ TyF E.P t S := by
  unfold isSlcT at h
  split at h
  · rename_i m u hl
    cases h
    obtain ⟨i, S, h1, _, _, _, h5, h6⟩ := E.ok T _ hl
    exact ⟨i, S, h1, h5, h6⟩
  · cases h
theorem isStT.ok {T : TypeId} {t : Ty} (h : isStT E.tt T = some t) : ∃ fs zs, E.P.underlying T = some (.struct fs) ∧ FldF E.P t fs.toList 0 zs := by
  unfold isStT at h
  split at h
  · rename_i u hl
    cases h
    obtain ⟨_, i, fs, zs, h1, _, _, _, h5, h6, _⟩ := E.ok T _ hl
    exact ⟨fs, zs.toList, h5, h6⟩
  · cases h
def lenF (tt : List (TypeId × Ty)) (h : List (Nat × Tree)) (T : TypeId) (x : AV) : Res :=
  match isSlcT tt T with
  | none => .bad
  | some _ => match x with
    | .val (.slc _ _) xs => .tot (.val (.int .i64) (xs.length : Int)) []
    | .cv (.slice none 0 0) => .tot (.val (.int .i64) (0 : Int)) []
    | .ref id p => match lk h id with
      | some ⟨τ, x⟩ => match tyAt τ p with
        | some (.osl t) => .part (List t.den) (fun xs => GetP τ x p (.osl t) xs) (fun xs => (.val (.int .i64) (xs.length : Int), []))
        | _ => .bad
      | none => .bad
    | .view _ _ lo hi => .tot (.val (.int .i64) ((hi - lo : Nat) : Int)) []
    | .app id p τ ys _ => match lk h id with
      | some ⟨τ0, x⟩ => .part (List τ.den) (fun xs => GetP τ0 x p (.osl τ) xs) (fun xs => (.val (.int .i64) ((xs.length + ys.length : Nat) : Int), []))
      | none => .bad
    | _ => .bad
theorem len_run {T : TypeId} {t : Ty} (hT : isSlcT E.tt T = some t) {x : Operand} (ho : o.op = .call { callee := .builtin .len, args := #[x], argTypes := #[T] }) {ad : Option Addr} {n c : Nat} (hx : a.eval x = .slice ad n c) :
    (execOp a.eval o).run E.P w = .ok (.value (.int .i64 n)) w := by
  obtain ⟨i, S, _, h5, _⟩ := isSlcT.ok hT
  simp [execOp, ho, resolve, invoke, builtin, hx, Builtin.len_, run_underlying h5, goInt]
theorem lenF_sound (hR : RelAt C st a.tmps w I rt fp) {T : TypeId} {x : Operand} (ho : o.op = .call { callee := .builtin .len, args := #[x], argTypes := #[T] }) (h : (lenF E.tt st.h T (opA st.g x)).K Q) :
    Yields E C st a w I rt fp o Q := by
  have hx := hR.opA x
  unfold lenF at h
  split at h
  · exact h.elim
  rename_i t hT
  generalize hv : a.eval x = v at hx
  split at h
  · rename_i m u xs ex
    rw [ex] at hx
    cases hx with | val r =>
    obtain ⟨_, ad, cap, rfl, _⟩ := r
    exact .pure (len_run hT ho hv) (.int _ _) h
  · rename_i ex
    rw [ex] at hx
    cases hx
    exact .pure (len_run hT ho hv) (.int _ _) h
  · rename_i id p ex
    rw [ex] at hx
    split at h
    · rename_i τ y ht
      split at h
      · rename_i u hty
        obtain ⟨xs, hg, h⟩ := h
        cases hx with | ref ht' hn =>
        rw [ht] at ht'; cases ht'
        obtain ⟨rfl, f, hr, _⟩ := hR.getP ht hg hn
        obtain ⟨ad, cap, rfl, _⟩ := hr
        exact .pure (len_run hT ho hv) (.int _ _) h
      · exact h.elim
    · exact h.elim
  · rename_i id p lo hi ex
    rw [ex] at hx
    cases hx with
    | viewE => exact .pure (len_run hT ho hv) (.int _ _) h
    | view ht' hn => exact .pure (len_run hT ho hv) (.int _ _) h
  · rename_i id p τ ys own ex
    rw [ex] at hx
    split at h
    · rename_i τ0 y ht
      obtain ⟨xs, hg, h⟩ := h
      cases hx with | app ht' hnb hn hg' h1 hf1 h2 =>
      rw [ht] at ht'; cases ht'
      obtain ⟨ad, cap, e, _⟩ := h2
      simp only [List.cons.injEq, and_true] at e
      have hq := GetP.uniq hg hg'
      subst hq
      rw [e] at hv
      have := len_run (w := w) hT ho hv
      rw [List.length_append] at this
      exact .pure this (.int _ _) h
    · exact h.elim
  · exact h.elim
theorem Nav.idx1 {t : Ty} {l : Loc} {b o len cap k : Nat} {ds : List Value} (h1 : k < len) (h2 : ds.length = t.size) (h3 : At w b (o + k * t.size) ds) :
    Nav w (.osl t) l [.slice (some ⟨b, o, none⟩) len cap] [.idx k] t (some (b, o + k * t.size)) ds := ⟨b, o, len, cap, ds, rfl, h1, h2, h3, Nav.here⟩
theorem Nav.deref1 {t : Ty} {l : Loc} {b o : Nat} {ds : List Value} (h2 : ds.length = t.size) (h3 : At w b o ds) :
    Nav w (.optr t) l [.pointer (some ⟨b, o, none⟩)] [.deref] t (some (b, o)) ds := ⟨b, o, ds, rfl, h2, h3, Nav.here⟩
def idxF (tt : List (TypeId × Ty)) (h : List (Nat × Tree)) (T : TypeId) (x i : AV) : Res :=
  match isSlcT tt T with
  | none => .bad
  | some u => match i with
    | .val (.int _) i => match x with
      | .val (.slc m t) xs => bif sameLay u t then .part t.den (fun y => getI xs i = some y) (fun y => (.val (.ptr m t) (some y), [])) else .bad
      | .ref id p => match lk h id with
        | some ⟨τ, x⟩ => match tyAt τ p with
          | some (.osl t) => bif sameLay u t then .part (List t.den × Nat) (fun q => GetP τ x p (.osl t) q.1 ∧ i = (q.2 : Int) ∧ q.2 < q.1.length) (fun q => (.addr id (p ++ [.idx q.2]), [])) else .bad
          | _ => .bad
        | none => .bad
      | .view id p lo hi => match lk h id with
        | some ⟨τ, x⟩ => match tyAt τ p with
          | some (.osl t) => bif sameLay u t then .part (List t.den × Nat) (fun q => GetP τ x p (.osl t) q.1 ∧ i = (q.2 : Int) ∧ q.2 < hi - lo) (fun q => (.addr id (p ++ [.idx (lo + q.2)]), [])) else .bad
          | _ => .bad
        | none => .bad
      | _ => .bad
    | _ => .bad
theorem idx_run {T : TypeId} {u t : Ty} (hT : isSlcT E.tt T = some u) (hl : sameLay u t = true) {x i : Operand} (ho : o.op = .indexAddr T x i) {b off len cap k : Nat} {ik : IntKind} (hx : a.eval x = .slice (some ⟨b, off, none⟩) len cap)
    (hi : a.eval i = .int ik k) (hk : k < len) : (execOp a.eval o).run E.P w = .ok (.value (.pointer (some ⟨b, off + k * t.size, none⟩))) w := by
  obtain ⟨j, S, _, h5, h6⟩ := isSlcT.ok hT
  have hs := (h6.lay hl).sizeOf w
  have : (0 : Int) ≤ (k : Int) ∧ (k : Int) < (len : Int) := ⟨by omega, by omega⟩
  simp [execOp, ho, hx, hi, Instr.indexAt, asIntOf, run_underlying h5, this, hs, Addr.add_lit]
  intro h0; omega
theorem idxF_sound (hR : RelAt C st a.tmps w I rt fp) {T : TypeId} {x i : Operand} (ho : o.op = .indexAddr T x i) (h : (idxF E.tt st.h T (opA st.g x) (opA st.g i)).K Q) :
    Yields E C st a w I rt fp o Q := by
  have hx := hR.opA x
  have hi := hR.opA i
  unfold idxF at h
  split at h
  · exact h.elim
  rename_i u hT
  generalize hv : a.eval x = v at hx
  generalize hvi : a.eval i = vi at hi
  split at h
  case h_2 => exact h.elim
  rename_i ik n ei
  rw [ei] at hi
  cases hi with | val r =>
  obtain ⟨_, rfl⟩ := r
  split at h
  · rename_i m t xs ex
    cases hl : sameLay u t with
    | false => rw [hl] at h; exact h.elim
    | true =>
      rw [hl] at h
      obtain ⟨y, hy, h⟩ := h
      rw [ex] at hx
      cases hx with | val r =>
      obtain ⟨_, ad, cap, rfl, q1, q2, q3⟩ := r
      obtain ⟨e1, e2, e3⟩ := getI_some hy
      rcases q3 with rfl | ⟨b, off, rfl, hM, q4⟩
      · simp at e2
      obtain ⟨ds, d1, d2, d3⟩ := q4 _ _ e3
      have hvi' : a.eval i = .int ik (n.toNat : Nat) := by rw [hvi]; show Value.int ik n = _; rw [← e1]
      exact .pure (idx_run hT hl ho hv hvi' e2) (.val (τ := .ptr m t) (x := some y) (cs := [.pointer (some ⟨b, off + n.toNat * t.size, none⟩)]) ⟨rfl, b, _, ds, rfl, hM, d1, d2, d3⟩) h
  · rename_i id p ex
    split at h
    case h_2 => exact h.elim
    rename_i τ y ht
    split at h
    case h_2 => exact h.elim
    rename_i t hty
    cases hl : sameLay u t with
    | false => rw [hl] at h; exact h.elim
    | true =>
      rw [hl] at h
      obtain ⟨⟨xs, k⟩, ⟨hg, rfl, hk⟩, h⟩ := h
      simp only at hg hk h
      rw [ex] at hx
      cases hx with | ref ht' hn =>
      rw [ht] at ht'; cases ht'
      obtain ⟨rfl, f, hr, _⟩ := hR.getP ht hg hn
      obtain ⟨ad, cap, rfl, hr⟩ := hr
      rcases hr with ⟨_, rfl, _⟩ | ⟨b, off, fps, rfl, _, q1, q2, q3, q4⟩
      · simp at hk
      obtain ⟨ds, d1, d2, d3⟩ := q4 k xs[k] (fps[k]'(by omega)) (by simp) (by simp)
      exact .pure (idx_run hT hl ho hv hvi hk) (.addr ht (hn.append (Nav.idx1 hk d1 d2))) h
  · rename_i id p lo hi' ex
    split at h
    case h_2 => exact h.elim
    rename_i τ y ht
    split at h
    case h_2 => exact h.elim
    rename_i t hty
    cases hl : sameLay u t with
    | false => rw [hl] at h; exact h.elim
    | true =>
      rw [hl] at h
      obtain ⟨⟨xs, k⟩, ⟨hg, rfl, hk⟩, h⟩ := h
      simp only at hg hk h
      rw [ex] at hx
      cases hx with | viewE => (exact absurd hk (by omega)) | view ht' hn l1 l2 l3 =>
      rename_i b off len cap
      rw [ht] at ht'; cases ht'
      obtain ⟨e, f, hr, _⟩ := hR.getP ht hg hn
      cases e
      obtain ⟨ad, cap', hh, hr⟩ := hr
      simp only [List.cons.injEq, Value.slice.injEq, and_true] at hh
      obtain ⟨rfl, rfl, rfl⟩ := hh
      rcases hr with ⟨h0, _⟩ | ⟨b', off', fps, h0, _, q1, q2, q3, q4⟩
      · cases h0
      cases h0
      have hlk : lo + k < xs.length := by omega
      obtain ⟨ds, d1, d2, d3⟩ := q4 (lo + k) xs[lo + k] (fps[lo + k]'(by omega)) (by simp) (by simp)
      have := idx_run (w := w) hT hl ho hv hvi hk
      rw [if_neg (by omega), show off + lo * t.size + k * t.size = off + (lo + k) * t.size by rw [Nat.add_mul]; omega] at this
      exact .pure this (.addr ht (hn.append (Nav.idx1 hlk d1 d2))) h
  · exact h.elim
theorem Rep.pure {M : Md → Nat → Prop} {w : World} : ∀ {τ : Ty} {cs : List Value} {x : τ.den} {f : List Nat}, τ.pure = true → Rep M w τ cs x f → f = []
  | .int _, _, _, _, _, h => h.1
  | .bool, _, _, _, _, h => h.1
  | .str, _, _, _, _, h => h.1
  | .slc _ _, _, _, _, _, h => h.1
  | .ptr _ _, _, _, _, _, h => h.1
  | .nil, _, _, _, _, h => h.1
  | .st t, _, _, _, hp, h => Rep.pure (τ := t) hp h
  | .pr a b, _, _, _, hp, h => by
      simp only [Ty.pure, Bool.and_eq_true] at hp
      obtain ⟨f1, f2, rfl, h1, h2⟩ := h
      rw [Rep.pure (τ := a) hp.1 h1, Rep.pure (τ := b) hp.2 h2]; rfl
  | .osl _, _, _, _, hp, _ => by cases hp
  | .optr _, _, _, _, hp, _ => by cases hp
  | .blk, _, _, _, hp, _ => by cases hp
def readF (τ : Ty) (x : τ.den) (id : Nat) (p : List Step) (t : Ty) : Res :=
  bif t.pure then .part t.den (fun y => GetP τ x p t y) (fun y => (.val t y, [])) else .tot (.ref id p) []
def loadF (tt : List (TypeId × Ty)) (h : List (Nat × Tree)) (T : TypeId) (x : AV) : Res :=
  match lk tt T with
  | none => .bad
  | some u => match x with
    | .val (.ptr _ t) (some y) => bif sameLay u t then .tot (.val t y) [] else .bad
    | .addr id p => match lk h id with
      | some ⟨τ, x⟩ => match tyAt τ p with
        | some t => bif sameLay u t then readF τ x id p t else .bad
        | none => .bad
      | none => .bad
    | .ref id p => match lk h id with
      | some ⟨τ, x⟩ => match tyAt τ p with
        | some (.optr t) => bif sameLay u t then readF τ x id (p ++ [.deref]) t else .bad
        | _ => .bad
      | none => .bad
    | _ => .bad
theorem load_run {T : TypeId} {u t : Ty} (hT : lk E.tt T = some u) (hl : sameLay u t = true) {x : Operand} (ho : o.op = .load T x) {b off : Nat} {cs : List Value} (hx : a.eval x = .pointer (some ⟨b, off, none⟩)) (ha : At w b off cs) (hc : cs.length = t.size) :
    (execOp a.eval o).run E.P w = .ok (.value (regV t cs)) w := by
  have := run_loadVar ((E.ok T u hT).lay hl) ha hc
  simp [execOp, ho, hx, Instr.loadAt, Instr.sureAddr, this]
theorem readF_sound (hR : RelAt C st a.tmps w I rt fp) {id : Nat} {τ : Ty} {x : τ.den} (ht : lk st.h id = some ⟨τ, x⟩) {p : List Step} {t : Ty} {loc : Loc} {cs : List Value} (hn : Nav w τ none (rt id) p t loc cs)
    (hr : (execOp a.eval o).run E.P w = .ok (.value (regV t cs)) w) (h : (readF τ x id p t).K Q) : Yields E C st a w I rt fp o Q := by
  unfold readF at h
  cases hp : t.pure with
  | true =>
    rw [hp] at h
    obtain ⟨y, hg, h⟩ := h
    obtain ⟨_, f, hrep, _⟩ := hR.getP ht hg hn
    have := hrep.pure hp
    subst this
    exact .pure hr (.val hrep) h
  | false =>
    rw [hp] at h
    exact .pure hr (.ref ht hn) h
theorem loadF_sound (hR : RelAt C st a.tmps w I rt fp) {T : TypeId} {x : Operand} (ho : o.op = .load T x) (h : (loadF E.tt st.h T (opA st.g x)).K Q) : Yields E C st a w I rt fp o Q := by
  have hx := hR.opA x
  unfold loadF at h
  split at h
  · exact h.elim
  rename_i u hT
  generalize hv : a.eval x = v at hx
  split at h
  · rename_i m t y ex
    cases hl : sameLay u t with
    | false => rw [hl] at h; exact h.elim
    | true =>
      rw [hl] at h
      rw [ex] at hx
      cases hx with | val r =>
      obtain ⟨_, b, off, ds, rfl, q1, q2, q3, q4⟩ := r
      exact .pure (load_run hT hl ho hv q3 q2) (.val q4) h
  · rename_i id p ex
    split at h
    case h_2 => exact h.elim
    rename_i τ y ht
    split at h
    case h_2 => exact h.elim
    rename_i t hty
    cases hl : sameLay u t with
    | false => rw [hl] at h; exact h.elim
    | true =>
      rw [hl] at h
      rw [ex] at hx
      cases hx with | addr ht' hn =>
      rw [ht] at ht'; cases ht'
      have := hn.ty
      rw [hty] at this; cases this
      obtain ⟨q1, q2⟩ := hR.rootLen ht hn
      exact readF_sound hR ht hn (load_run hT hl ho hv (q2 _ _ rfl) q1) h
  · rename_i id p ex
    split at h
    case h_2 => exact h.elim
    rename_i τ y ht
    split at h
    case h_2 => exact h.elim
    rename_i t hty
    cases hl : sameLay u t with
    | false => rw [hl] at h; exact h.elim
    | true =>
      rw [hl] at h
      rw [ex] at hx
      cases hx with | ref ht' hn =>
      rename_i τ' loc cs
      rw [ht] at ht'; cases ht'
      have := hn.ty
      rw [hty] at this; cases this
      obtain ⟨b, off, ds, rfl, d1, d2⟩ := navOptr (hR.tree id _ ht).1 hn
      exact readF_sound hR ht (hn.append (Nav.deref1 d1 d2)) (load_run hT hl ho hv d2 d1) h
  · exact h.elim
def fldAF (tt : List (TypeId × Ty)) (h : List (Nat × Tree)) (T : TypeId) (x : AV) (n : Nat) : Res :=
  match isStT tt T with
  | none => .bad
  | some u => match x with
    | .val (.ptr m (.st t)) (some y) => bif sameLay u t then match fldV t y n with
        | some ⟨tf, yf⟩ => .tot (.val (.ptr m tf) (some yf)) []
        | none => .bad
      else .bad
    | .ref id p => match lk h id with
      | some ⟨τ, _⟩ => match tyAt τ p with
        | some (.optr (.st t)) => bif sameLay u t then match fldSteps t n with
            | some (s, _) => .tot (.addr id (p ++ (.deref :: .unst :: s))) []
            | none => .bad
          else .bad
        | _ => .bad
      | none => .bad
    | .addr id p => match lk h id with
      | some ⟨τ, _⟩ => match tyAt τ p with
        | some (.st t) => bif sameLay u t then match fldSteps t n with
            | some (s, _) => .tot (.addr id (p ++ (.unst :: s))) []
            | none => .bad
          else .bad
        | _ => .bad
      | none => .bad
    | _ => .bad
theorem fldA_run {T : TypeId} {u t : Ty} (hT : isStT E.tt T = some u) (hl : sameLay u t = true) {n : Nat} {s : List Step} {tf : Ty} (hs : fldSteps t n = some (s, tf)) {x : Operand} (ho : o.op = .fieldAddr T x n) {b off : Nat}
    (hx : a.eval x = .pointer (some ⟨b, off, none⟩)) : (execOp a.eval o).run E.P w = .ok (.value (.pointer (some ⟨b, off + fldOff t n, none⟩))) w := by
  obtain ⟨fs, zs, h5, h6⟩ := isStT.ok hT
  obtain ⟨f, hf, ho', hf2⟩ := fldF_get (FldF.lay hl h6) hs
  have hz : tf.size ≠ 0 := by have := hf2.pos; omega
  have hf' : fs[n]? = some f := by simpa using hf
  simp [execOp, ho, hx, Instr.fieldAt, run_underlying h5, hf', Instr.sureAddr, fieldPlace, hf2.sizeOf, hz, Addr.add_lit, ho']
theorem fldAF_sound (hR : RelAt C st a.tmps w I rt fp) {T : TypeId} {x : Operand} {n : Nat} (ho : o.op = .fieldAddr T x n) (h : (fldAF E.tt st.h T (opA st.g x) n).K Q) : Yields E C st a w I rt fp o Q := by
  have hx := hR.opA x
  unfold fldAF at h
  split at h
  · exact h.elim
  rename_i u hT
  generalize hv : a.eval x = v at hx
  split at h
  · rename_i m t y ex
    cases hl : sameLay u t with
    | false => rw [hl] at h; exact h.elim
    | true =>
      rw [hl] at h
      simp only [cond_true] at h
      split at h
      case h_2 => exact h.elim
      rename_i tf yf hf
      rw [ex] at hx
      cases hx with | val r =>
      obtain ⟨_, b, off, ds, rfl, q1, q2, q3, q4⟩ := r
      obtain ⟨s, hs⟩ := fldV_steps hf
      obtain ⟨r1, r2⟩ := fldV_rep (τ := t) q4 hf
      have l1 := q4.len
      simp only [Ty.size] at l1 r1 r2
      exact .pure (fldA_run hT hl hs ho hv) (.val (τ := .ptr m tf) (x := some yf) (cs := [.pointer (some ⟨b, off + fldOff t n, none⟩)]) ⟨rfl, b, _, _, rfl, q1, by simp; omega, q3.drop.take, r1⟩) h
  · rename_i id p ex
    split at h
    case h_2 => exact h.elim
    rename_i τ y ht
    split at h
    case h_2 => exact h.elim
    rename_i t hty
    cases hl : sameLay u t with
    | false => rw [hl] at h; exact h.elim
    | true =>
      rw [hl] at h
      simp only [cond_true] at h
      split at h
      case h_2 => exact h.elim
      rename_i s tf hs
      rw [ex] at hx
      cases hx with | ref ht' hn =>
      rw [ht] at ht'; cases ht'
      have := hn.ty
      rw [hty] at this; cases this
      obtain ⟨b, off, ds, rfl, d1, d2⟩ := navOptr (hR.tree id _ ht).1 hn
      rename_i loc
      have q : Nav w (.optr (.st t)) loc [.pointer (some ⟨b, off, none⟩)] (.deref :: .unst :: s) tf (some (b, off + fldOff t n)) ((ds.drop (fldOff t n)).take tf.size) := ⟨b, off, ds, rfl, d1, d2, Nav.fld (l := some (b, off)) hs⟩
      exact .pure (fldA_run hT hl hs ho hv) (.addr ht (hn.append q)) h
  · rename_i id p ex
    split at h
    case h_2 => exact h.elim
    rename_i τ y ht
    split at h
    case h_2 => exact h.elim
    rename_i t hty
    cases hl : sameLay u t with
    | false => rw [hl] at h; exact h.elim
    | true =>
      rw [hl] at h
      simp only [cond_true] at h
      split at h
      case h_2 => exact h.elim
      rename_i s tf hs
      rw [ex] at hx
      cases hx with | addr ht' hn =>
      rw [ht] at ht'; cases ht'
      have := hn.ty
      rw [hty] at this; cases this
      rename_i b off cs
      have q : Nav w (.st t) (some (b, off)) cs (.unst :: s) tf (some (b, off + fldOff t n)) ((cs.drop (fldOff t n)).take tf.size) := Nav.fld (l := some (b, off)) hs
      exact .pure (fldA_run hT hl hs ho hv) (.addr ht (hn.append q)) h
  · exact h.elim
def fldF (tt : List (TypeId × Ty)) (h : List (Nat × Tree)) (T : TypeId) (x : AV) (n : Nat) : Res :=
  match isStT tt T with
  | none => .bad
  | some u => match x with
    | .val (.st t) y => bif sameLay u t then match fldV t y n with
        | some ⟨tf, yf⟩ => .tot (.val tf yf) []
        | none => .bad
      else .bad
    | .ref id p => match lk h id with
      | some ⟨τ, x⟩ => match tyAt τ p with
        | some (.st t) => bif sameLay u t then match fldSteps t n with
            | some (s, tf) => readF τ x id (p ++ (.unst :: s)) tf
            | none => .bad
          else .bad
        | _ => .bad
      | none => .bad
    | _ => .bad
theorem fld_run {T : TypeId} {u t : Ty} (hT : isStT E.tt T = some u) (hl : sameLay u t = true) {n : Nat} {s : List Step} {tf : Ty} (hs : fldSteps t n = some (s, tf)) {x : Operand} (ho : o.op = .field T x n) {cs : List Value}
    (hx : a.eval x = regV (.st t) cs) (hc : fldOff t n + tf.size ≤ cs.length) : (execOp a.eval o).run E.P w = .ok (.value (regV tf ((cs.drop (fldOff t n)).take tf.size))) w := by
  obtain ⟨fs, zs, h5, h6⟩ := isStT.ok hT
  obtain ⟨f, hf, ho', hf2⟩ := fldF_get (FldF.lay hl h6) hs
  have hz := hf2.pos
  have hf' : fs[n]? = some f := by simpa using hf
  simp only [Nat.zero_add] at ho'
  have hx' : a.eval x = .agg cs.toArray := hx
  have key : (part f.type cs.toArray f.offset).run E.P w = .ok (regV tf ((cs.drop (fldOff t n)).take tf.size)) w := by
    simp only [part, Sem.run_bind, hf2.isAgg, Result.andThen_ok, ho']
    cases hq : isSt tf with
    | true =>
      rw [regV_of_st hq]
      simp only [if_true, Sem.run_bind, hf2.sizeOf, Result.andThen_ok, Sem.run_pure]
      congr 2
      apply Array.ext'
      rw [Array.toList_extract, List.extract_eq_take_drop, Nat.add_sub_cancel_left]
    | false =>
      have h1 := one_of_not_st hf2 hq
      rw [regV_of_not_st hq, h1]
      have hlt : fldOff t n < cs.length := by omega
      have : (cs.drop (fldOff t n)).take 1 = [cs[fldOff t n]] := by
        rw [List.drop_eq_getElem_cons hlt]; rfl
      rw [this]
      simp [hlt]
  simp [execOp, ho, hx', Instr.field, run_underlying h5, hf', asAgg, key]
theorem fldF_sound (hR : RelAt C st a.tmps w I rt fp) {T : TypeId} {x : Operand} {n : Nat} (ho : o.op = .field T x n) (h : (fldF E.tt st.h T (opA st.g x) n).K Q) : Yields E C st a w I rt fp o Q := by
  have hx := hR.opA x
  unfold fldF at h
  split at h
  · exact h.elim
  rename_i u hT
  generalize hv : a.eval x = v at hx
  split at h
  · rename_i t y ex
    cases hl : sameLay u t with
    | false => rw [hl] at h; exact h.elim
    | true =>
      rw [hl] at h
      simp only [cond_true] at h
      split at h
      case h_2 => exact h.elim
      rename_i tf yf hf
      rw [ex] at hx
      cases hx with | val r =>
      obtain ⟨s, hs⟩ := fldV_steps hf
      obtain ⟨r1, r2⟩ := fldV_rep (τ := t) r hf
      have l1 := r.len
      simp only [Ty.size] at l1
      exact .pure (fld_run hT hl hs ho hv (by simp only at *; omega)) (.val r1) h
  · rename_i id p ex
    split at h
    case h_2 => exact h.elim
    rename_i τ y ht
    split at h
    case h_2 => exact h.elim
    rename_i t hty
    cases hl : sameLay u t with
    | false => rw [hl] at h; exact h.elim
    | true =>
      rw [hl] at h
      simp only [cond_true] at h
      split at h
      case h_2 => exact h.elim
      rename_i s tf hs
      rw [ex] at hx
      cases hx with | ref ht' hn =>
      rename_i τ' loc cs
      rw [ht] at ht'; cases ht'
      have := hn.ty
      rw [hty] at this; cases this
      obtain ⟨q1, q2⟩ := hR.rootLen ht hn
      have q : Nav w (.st t) loc cs (.unst :: s) tf (loc.map fun q => (q.1, q.2 + fldOff t n)) ((cs.drop (fldOff t n)).take tf.size) := Nav.fld hs
      exact readF_sound hR ht (hn.append q) (fld_run hT hl hs ho hv (by rw [q1]; exact fldSteps_le hs)) h
  · exact h.elim
def nilF (h : List (Nat × Tree)) (x : AV) : Res :=
  match x with
  | .val (.ptr m t) x => .part t.den (fun y => x = some y) (fun y => (.val (.ptr m t) (some y), []))
  | .ref id p => match lk h id with
    | some ⟨τ, _⟩ => match tyAt τ p with
      | some (.optr _) => .tot (.ref id p) []
      | _ => .bad
    | none => .bad
  | .addr id p => .tot (.addr id p) []
  | .clo f l => .tot (.clo f l) []
  | _ => .bad
theorem nilF_sound (hR : RelAt C st a.tmps w I rt fp) {x : Operand} (ho : o.op = .nilCheck x) (h : (nilF st.h (opA st.g x)).K Q) : Yields E C st a w I rt fp o Q := by
  have hx := hR.opA x
  unfold nilF at h
  generalize hv : a.eval x = v at hx
  split at h
  · rename_i m t y ex
    obtain ⟨y, rfl, h⟩ := h
    rw [ex] at hx
    cases hx with | val r =>
    obtain ⟨_, b, off, ds, rfl, q1, q2, q3, q4⟩ := r
    exact .pure (v := .pointer (some ⟨b, off, none⟩)) (by simp [execOp, ho, hv, regV]) (.val (τ := .ptr m t) (x := some y) (cs := [.pointer (some ⟨b, off, none⟩)]) ⟨rfl, b, off, ds, rfl, q1, q2, q3, q4⟩) h
  · rename_i id p ex
    split at h
    case h_2 => exact h.elim
    rename_i τ y ht
    split at h
    case h_2 => exact h.elim
    rename_i t hty
    rw [ex] at hx
    cases hx with | ref ht' hn =>
    rw [ht] at ht'; cases ht'
    have := hn.ty
    rw [hty] at this; cases this
    obtain ⟨b, off, ds, rfl, d1, d2⟩ := navOptr (hR.tree id _ ht).1 hn
    exact .pure (v := .pointer (some ⟨b, off, none⟩)) (by simp [execOp, ho, hv, regV]) (.ref (τ' := .optr t) ht hn) h
  · rename_i id p ex
    rw [ex] at hx
    cases hx with | addr ht hn =>
    exact .pure (by simp [execOp, ho, hv]) (.addr ht hn) h
  · rename_i f l ex
    rw [ex] at hx
    cases hx with | clo hl hh =>
    exact .pure (by simp [execOp, ho, hv]) (.clo hl hh) h
  · exact h.elim
def bndP (x : Option AV) (d k : Nat) : Prop :=
  match x with
  | none => k = d
  | some (.val (.int _) i) => i = (k : Int)
  | some _ => False
def slcF (tt : List (TypeId × Ty)) (h : List (Nat × Tree)) (T : TypeId) (x : AV) (lo hi : Option AV) : Res :=
  match isSlcT tt T with
  | none => .bad
  | some u => match x with
    | .val (.slc m t) xs => bif sameLay u t then
        .part (Nat × Nat) (fun q => bndP lo 0 q.1 ∧ bndP hi xs.length q.2 ∧ q.1 ≤ q.2 ∧ q.2 ≤ xs.length) (fun q => (.val (.slc m t) ((xs.take q.2).drop q.1), [])) else .bad
    | .ref id p => match lk h id with
      | some ⟨τ, x⟩ => match tyAt τ p with
        | some (.osl t) => bif sameLay u t then
            .part (List t.den × Nat × Nat) (fun q => GetP τ x p (.osl t) q.1 ∧ bndP lo 0 q.2.1 ∧ bndP hi q.1.length q.2.2 ∧ q.2.1 ≤ q.2.2 ∧ q.2.2 ≤ q.1.length) (fun q => (.view id p q.2.1 q.2.2, [])) else .bad
        | _ => .bad
      | none => .bad
    | _ => .bad
def bndV (a : Act) (x : Option Operand) (d k : Nat) : Prop :=
  match x with
  | none => k = d
  | some y => ∃ q, a.eval y = .int q k
theorem slc_run {T : TypeId} {u t : Ty} (hT : isSlcT E.tt T = some u) (hl : sameLay u t = true) {x : Operand} {lo hi : Option Operand} (ho : o.op = .slice T x lo hi none) {ad : Option Addr} {len cap l h : Nat} (hx : a.eval x = .slice ad len cap)
    (hlo : bndV a lo 0 l) (hhi : bndV a hi len h) (h1 : l ≤ h) (h2 : h ≤ cap) :
    (execOp a.eval o).run E.P w = .ok (.value (.slice (if cap = l then ad else ad.map (·.add (l * t.size))) (h - l) (cap - l))) w := by
  obtain ⟨j, S, _, h5, h6⟩ := isSlcT.ok hT
  have hs := (h6.lay hl).sizeOf w
  have e1 : (0 : Int) ≤ (h : Int) ∧ (h : Int) ≤ (cap : Int) := ⟨by omega, by omega⟩
  have e2 : (0 : Int) ≤ (l : Int) ∧ (l : Int) ≤ (h : Int) := ⟨by omega, by omega⟩
  have e3 : (Instr.sliceBounds true len cap (lo.map a.eval) (hi.map a.eval) none).run E.P w = .ok (l, h, cap) w := by
    cases lo with
    | none =>
      obtain rfl : l = 0 := hlo
      cases hi with
      | none => obtain rfl : h = len := hhi; simp [Instr.sliceBounds]
      | some y => obtain ⟨k, hk⟩ := hhi; simp [Instr.sliceBounds, Instr.sliceBound, hk, asIntOf, e1]; intro h0; omega
    | some z =>
      obtain ⟨k', hk'⟩ := hlo
      cases hi with
      | none => obtain rfl : h = len := hhi; simp [Instr.sliceBounds, Instr.sliceBound, hk', asIntOf, e2]; intro h0; omega
      | some y =>
        obtain ⟨k, hk⟩ := hhi
        have n1 : ¬ cap < h := by omega
        have n2 : ¬ h < l := by omega
        simp [Instr.sliceBounds, Instr.sliceBound, hk, hk', asIntOf, h1, h2]
  simp [execOp, ho, hx, Instr.sliceAt, Instr.slice, run_underlying h5, e3, hs]
theorem bnd_eval (hR : RelAt C st a.tmps w I rt fp) {x : Option Operand} {d k : Nat} (h : bndP (x.map (opA st.g)) d k) : bndV a x d k := by
  cases x with
  | none => exact h
  | some y =>
    have := hR.opA y
    simp only [Option.map_some, bndP] at h
    split at h
    · rename_i e; cases e
    · rename_i q i e
      simp only [Option.some.injEq] at e
      rw [e] at this
      subst h
      generalize hv : a.eval y = v at this
      cases this with | val r => obtain ⟨_, rfl⟩ := r; exact ⟨q, hv⟩
    · exact h.elim
theorem slcF_sound (hR : RelAt C st a.tmps w I rt fp) {T : TypeId} {x : Operand} {lo hi : Option Operand} (ho : o.op = .slice T x lo hi none) (h : (slcF E.tt st.h T (opA st.g x) (lo.map (opA st.g)) (hi.map (opA st.g))).K Q) :
    Yields E C st a w I rt fp o Q := by
  have hx := hR.opA x
  unfold slcF at h
  split at h
  · exact h.elim
  rename_i u hT
  generalize hv : a.eval x = v at hx
  split at h
  · rename_i m t xs ex
    cases hl : sameLay u t with
    | false => rw [hl] at h; exact h.elim
    | true =>
      rw [hl] at h
      obtain ⟨⟨l, k⟩, ⟨b1, b2, b3, b4⟩, h⟩ := h
      simp only at b1 b2 b3 b4 h
      rw [ex] at hx
      cases hx with | val r =>
      obtain ⟨_, ad, cap, rfl, q1, q2, q3⟩ := r
      have hrun := slc_run (w := w) hT hl ho hv (bnd_eval hR b1) (bnd_eval hR b2) b3 (by omega)
      have hlen : ((xs.take k).drop l).length = k - l := by simp; omega
      refine .pure hrun (.val (τ := .slc m t) (x := (xs.take k).drop l) (cs := [_]) ⟨rfl, _, cap - l, by rw [hlen], by omega, ?_, ?_⟩) h
      · intro h0
        by_cases hc : cap = l
        · omega
        · rw [if_neg hc] at h0
          cases ad with
          | none => have := q2 rfl; omega
          | some _ => cases h0
      · by_cases hkl : k = l
        · left; apply List.eq_nil_of_length_eq_zero; omega
        · right
          rcases q3 with rfl | ⟨b, off, rfl, hM, q4⟩
          · simp at b4; omega
          · refine ⟨b, off + l * t.size, by rw [if_neg (by omega)]; simp [Addr.add_lit], hM, fun i y hi => ?_⟩
            have hi' : xs[l + i]? = some y := by
              rw [List.getElem?_drop, List.getElem?_take] at hi
              split at hi
              · exact hi
              · cases hi
            obtain ⟨ds, d1, d2, d3⟩ := q4 _ _ hi'
            refine ⟨ds, d1, ?_, d3⟩
            rwa [show off + l * t.size + i * t.size = off + (l + i) * t.size by rw [Nat.add_mul]; omega]
  · rename_i id p ex
    split at h
    case h_2 => exact h.elim
    rename_i τ y ht
    split at h
    case h_2 => exact h.elim
    rename_i t hty
    cases hl : sameLay u t with
    | false => rw [hl] at h; exact h.elim
    | true =>
      rw [hl] at h
      obtain ⟨⟨xs, l, k⟩, ⟨hg, b1, b2, b3, b4⟩, h⟩ := h
      simp only at hg b1 b2 b3 b4 h
      rw [ex] at hx
      cases hx with | ref ht' hn =>
      rw [ht] at ht'; cases ht'
      obtain ⟨rfl, f, hr, _⟩ := hR.getP ht hg hn
      obtain ⟨ad, cap, rfl, hr⟩ := hr
      rcases hr with ⟨rfl, rfl, rfl, _⟩ | ⟨b, off, fps, rfl, _, q1, q2, q3, q4⟩
      · have hk0 : k = 0 := by simpa using b4
        subst hk0
        have hl0 : l = 0 := by omega
        subst hl0
        exact .pure (slc_run (w := w) hT hl ho hv (bnd_eval hR b1) (bnd_eval hR b2) (Nat.le_refl _) (Nat.le_refl _)) (.viewE id p) h
      have hrun := slc_run (w := w) hT hl ho hv (bnd_eval hR b1) (bnd_eval hR b2) b3 (by omega)
      have : (if cap = l then some (⟨b, off, none⟩ : Addr) else (some (⟨b, off, none⟩ : Addr)).map (·.add (l * t.size))) = some ⟨b, if cap = l then off else off + l * t.size, none⟩ := by
        split <;> simp [Addr.add_lit]
      rw [this] at hrun
      exact .pure hrun (.view ht hn b3 b4 q2) h
  · exact h.elim
end
end Go.Fw
end

section
namespace Go.Fw
def cvC : (τ : Ty) → List Value → Option τ.den
  | .int k, cs => match cs with
    | [.int k' n] => if k = k' then some n else none
    | _ => none
  | .bool, cs => match cs with
    | [.bool b] => some b
    | _ => none
  | .str, cs => match cs with
    | [.string s] => some s
    | _ => none
  | .slc _ _, cs => match cs with
    | [.slice none 0 0] => some []
    | _ => none
  | .osl _, cs => match cs with
    | [.slice none 0 0] => some []
    | _ => none
  | .ptr _ _, cs => match cs with
    | [.pointer none] => some none
    | _ => none
  | .st t, cs => cvC t cs
  | .pr a b, cs => match cvC a (cs.take a.size), cvC b (cs.drop a.size) with
    | some x, some y => some (x, y)
    | _, _ => none
  | .nil, cs => match cs with
    | [] => some ()
    | _ => none
  | .optr _, _ => none
  | .blk, _ => none
theorem cvC_rep {M : Md → Nat → Prop} {w : World} : ∀ {τ : Ty} {cs : List Value} {x : τ.den}, cvC τ cs = some x → Rep M w τ cs x []
  | .int k, cs, x, h => by
      simp only [cvC] at h
      split at h
      · split at h
        · rename_i hk; cases h; subst hk; exact ⟨rfl, rfl⟩
        · cases h
      · cases h
  | .bool, cs, x, h => by
      simp only [cvC] at h
      split at h <;> cases h
      exact ⟨rfl, rfl⟩
  | .str, cs, x, h => by
      simp only [cvC] at h
      split at h <;> cases h
      exact ⟨rfl, rfl⟩
  | .slc _ _, cs, x, h => by
      simp only [cvC] at h
      split at h <;> cases h
      exact ⟨rfl, none, 0, rfl, Nat.le_refl _, fun _ => rfl, .inl rfl⟩
  | .osl _, cs, x, h => by
      simp only [cvC] at h
      split at h <;> cases h
      exact ⟨none, 0, rfl, .inl ⟨rfl, rfl, rfl, rfl⟩⟩
  | .ptr _ _, cs, x, h => by
      simp only [cvC] at h
      split at h <;> cases h
      exact ⟨rfl, rfl⟩
  | .st t, cs, x, h => cvC_rep (τ := t) (by simp only [cvC] at h; exact h)
  | .pr a b, cs, x, h => by
      simp only [cvC] at h
      split at h
      · rename_i x y hx hy
        cases h
        exact ⟨[], [], rfl, cvC_rep (τ := a) hx, cvC_rep (τ := b) hy⟩
      · cases h
  | .nil, cs, x, h => by
      simp only [cvC] at h
      split at h <;> cases h
      exact ⟨rfl, rfl⟩
  | .optr _, cs, x, h => by simp only [cvC] at h; cases h
  | .blk, cs, x, h => by simp only [cvC] at h; cases h
theorem foldl_set (off : Nat) : ∀ (l : List Value) (k : Nat) (cs : Array Value),
    let r := (l.zipIdx k).foldl (fun cs (q : Value × Nat) => cs.setIfInBounds (off + q.2) q.1) cs
    r.size = cs.size ∧ (∀ j, j < off + k ∨ off + k + l.length ≤ j → r[j]? = cs[j]?) ∧ (off + k + l.length ≤ cs.size → ∀ j v, l[j]? = some v → r[off + k + j]? = some v)
  | [], k, cs => ⟨rfl, fun _ _ => rfl, fun _ j v h => by simp at h⟩
  | x :: l, k, cs => by
      obtain ⟨h1, h2, h3⟩ := foldl_set off l (k + 1) (cs.setIfInBounds (off + k) x)
      simp only [List.zipIdx_cons, List.foldl_cons]
      refine ⟨by rw [h1]; simp, fun j hj => ?_, fun hs j v hv => ?_⟩
      · simp only [List.length_cons] at hj
        rw [h2 j (by omega), Array.getElem?_setIfInBounds_ne (by omega)]
      · simp only [List.length_cons] at hs
        cases j with
        | zero =>
          simp only [List.getElem?_cons_zero, Option.some.injEq] at hv
          subst hv
          rw [Nat.add_zero, h2 _ (by omega)]
          have : off + k < cs.size := by omega
          simp [this]
        | succ j =>
          simp only [List.getElem?_cons_succ] at hv
          have := h3 (by simp; omega) j v hv
          rwa [show off + (k + 1) + j = off + k + (j + 1) by omega] at this
theorem fill_ok (place : Nat → Option (Nat × Nat)) : ∀ (parts : List (Nat × Value)) (cells : Array Value),
    (∀ q ∈ parts, ∃ off s, place q.1 = some (off, s) ∧ q.2.cells.size = s ∧ off + s ≤ cells.size) →
    (parts.Pairwise fun q r => ∀ o s o' s', place q.1 = some (o, s) → place r.1 = some (o', s') → o + s ≤ o' ∨ o' + s' ≤ o) →
    ∃ r, Instr.fill place cells parts = some r ∧ r.size = cells.size ∧
      (∀ j, (∀ q ∈ parts, ∀ o s, place q.1 = some (o, s) → j < o ∨ o + s ≤ j) → r[j]? = cells[j]?) ∧
      (∀ q ∈ parts, ∀ o s, place q.1 = some (o, s) → ∀ j v, q.2.cells[j]? = some v → r[o + j]? = some v)
  | [], cells, _, _ => ⟨cells, rfl, rfl, fun _ _ => rfl, fun q hq => by cases hq⟩
  | (i, v) :: parts, cells, h1, h2 => by
      obtain ⟨off, s, p1, p2, p3⟩ := h1 (i, v) (by simp)
      simp only at p1 p2
      rw [List.pairwise_cons] at h2
      have hz : v.cells.zipIdx.foldl (fun cs (q : Value × Nat) => cs.setIfInBounds (off + q.2) q.1) cells = (v.cells.toList.zipIdx 0).foldl (fun cs (q : Value × Nat) => cs.setIfInBounds (off + q.2) q.1) cells := by
        rw [← Array.foldl_toList, Array.toList_zipIdx]
      obtain ⟨f1, f2, f3⟩ := foldl_set off v.cells.toList 0 cells
      rw [← hz] at f1 f2 f3
      simp only [Array.length_toList] at f2 f3
      generalize hc : v.cells.zipIdx.foldl (fun cs (q : Value × Nat) => cs.setIfInBounds (off + q.2) q.1) cells = cells1 at f1 f2 f3
      obtain ⟨r, r1, r2, r3, r4⟩ := fill_ok place parts cells1 (fun q hq => by
        obtain ⟨o', s', g1, g2, g3⟩ := h1 q (List.mem_cons_of_mem _ hq)
        exact ⟨o', s', g1, g2, by rw [f1]; exact g3⟩) h2.2
      refine ⟨r, ?_, by rw [r2, f1], fun j hj => ?_, fun q hq o' s' hp j u hu => ?_⟩
      · have hb : (decide (v.cells.size ≠ s) || decide (off + v.cells.size > cells.size)) = false := by simp; omega
        simp only [Instr.fill, p1, hb]
        rw [show (v.cells.zipIdx.foldl (fun cs x => match x with | (c, j) => cs.setIfInBounds (off + j) c) cells) = cells1 from hc]
        simpa using r1
      · rw [r3 j (fun q hq => hj q (List.mem_cons_of_mem _ hq)), f2 j (by have := hj (i, v) (by simp) off s p1; omega)]
      · rcases List.mem_cons.1 hq with rfl | hq
        · simp only at hp hu
          rw [p1] at hp
          cases hp
          have hjl : j < v.cells.size := (Array.getElem?_eq_some_iff.1 hu).1
          rw [r3 (off + j) (fun q hq o' s' hp' => by
            have := h2.1 q hq off s o' s' p1 hp'
            omega)]
          exact f3 (by omega) j u (by simpa using hu)
        · exact r4 q hq o' s' hp j u hu
section
variable {E : Env} {C : Ctx} {st : St} {a : Act} {w : World} {I : Nat → Prop} {rt : Nat → List Value} {fp : Nat → List Nat} {o : Oper} {Q : AV → List (Nat × Tree) → Prop}
theorem At.alloc {w : World} {cells : Array Value} {T : TypeId} {o : Nat} {cs : List Value} (h : ∀ j v, cs[j]? = some v → cells[o + j]? = some v) : At (w.alloc (.cells cells T)) w.heap.size o cs := fun j v hj => by
  rw [World.cell?_alloc_new]; exact h j v hj
theorem Fr.alloc {w : World} {cells : Array Value} {T : TypeId} {lo hi : Nat} (h : hi ≤ cells.size) : Fr (w.alloc (.cells cells T)) w.heap.size lo hi := fun j _ h2 => by
  rw [World.cell?_alloc_new, World.frozen?_alloc_new]
  exact ⟨by simp; omega, rfl⟩
theorem Yields.new {d : Nat} {t : Tree} {v : Value} {cs : List Value} {f : List Nat} {cells : Array Value} {T : TypeId} (hn : lk st.h d = none) (hR : RelAt C st a.tmps w I rt fp)
    (hr : (execOp a.eval o).run E.P w = .ok (.value v) (w.alloc (.cells cells T))) (hv : v = regV t.1 cs) (hrep : Rep (md I C.B) (w.alloc (.cells cells T)) t.1 cs t.2 f) (hf : ∀ b ∈ f, b = w.heap.size) (hnd : f.Nodup)
    (hq : Q (.ref d []) [(d, t)]) : Yields E C st a w I rt fp o Q := by
  refine ⟨v, _, I, fun _ => cs, fun _ => f, .ref d [], [(d, t)], hr, .alloc w _, fun _ h => h, fun _ h => .inl h, .one hn hrep hnd (fun b hb => ?_), ?_, hq⟩
  · rw [hf b hb]
    exact ⟨Nat.le_refl _, by simp, fun h => by have := hR.ib _ (.inl h); omega⟩
  · rw [hv]
    have hl : lk ([(d, t)] ++ st.h) d = some t := by rw [List.singleton_append, lk_cons, if_pos rfl]
    refine .ref (t := t) (τ' := t.1) (loc := none) hl ?_
    have : mixv [(d, t)] (fun _ => cs) rt d = cs := by simp [mixv, lk_cons]
    rw [this]
    exact Nav.here
def makeF (tt : List (TypeId × Ty)) (an : List (Nat × Ty)) (h : List (Nat × Tree)) (d : Nat) (T : TypeId) (l c : AV) : Res :=
  match isSlcT tt T, lk an d, lk h d with
  | some u, some (.osl t), none => match zeroD t, l, c with
    | some z, .val (.int _) l, .val (.int _) c => bif sameLay u t && Nat.ble t.size 2000 then
        .part (Nat × Nat) (fun q => l = (q.1 : Int) ∧ c = (q.2 : Int) ∧ q.1 ≤ q.2 ∧ q.2 ≤ lim) (fun q => (.ref d [], [(d, ⟨.osl t, List.replicate q.1 z⟩)])) else .bad
    | _, _, _ => .bad
  | _, _, _ => .bad
theorem madeCells_get (z : Array Value) (n i j : Nat) (v : Value) (_hz : 0 < z.size) (hv : z[j]? = some v) (hi : i < n) : (madeCells z (n * z.size))[i * z.size + j]? = some v := by
  have hj : j < z.size := (Array.getElem?_eq_some_iff.1 hv).1
  have h1 : (i + 1) * z.size ≤ n * z.size := Nat.mul_le_mul_right _ hi
  rw [Nat.add_mul, Nat.one_mul] at h1
  have h2 : (i * z.size + j) % z.size = j := by
    rw [Nat.add_comm, Nat.add_mul_mod_self_right, Nat.mod_eq_of_lt hj]
  simp only [madeCells, Array.getElem?_map, Array.getElem?_range]
  rw [if_pos (by omega)]
  simp only [Option.map_some, h2]
  rw [← hv, getElem!_pos z j hj, Array.getElem?_eq_getElem hj]
theorem makeF_sound (hR : RelAt C st a.tmps w I rt fp) {an : List (Nat × Ty)} {d : Nat} {T : TypeId} {l c : Operand} (ho : o.op = .makeSlice T l c) (h : (makeF E.tt an st.h d T (opA st.g l) (opA st.g c)).K Q) :
    Yields E C st a w I rt fp o Q := by
  have hl := hR.opA l
  have hc := hR.opA c
  unfold makeF at h
  split at h
  case h_2 => exact h.elim
  rename_i u t hT han hd
  split at h
  case h_2 => exact h.elim
  rename_i z kl n kc m hz el ec
  cases hb : (sameLay u t && Nat.ble t.size 2000) with
  | false => rw [hb] at h; exact h.elim
  | true =>
    rw [hb] at h
    simp only [Bool.and_eq_true] at hb
    obtain ⟨⟨n', m'⟩, ⟨rfl, rfl, h1, h2⟩, h⟩ := h
    simp only at h1 h2 h
    have hsz := Nat.le_of_ble_eq_true hb.2
    rw [el] at hl; rw [ec] at hc
    generalize hvl : a.eval l = vl at hl
    generalize hvc : a.eval c = vc at hc
    cases hl with | val r1 => cases hc with | val r2 =>
    obtain ⟨_, rfl⟩ := r1
    obtain ⟨_, rfl⟩ := r2
    obtain ⟨j, S, _, h5, h6⟩ := isSlcT.ok hT
    have h6' := h6.lay hb.1
    obtain ⟨i, zv, q1, q2, q3, q4⟩ := zero_rep h6' hz
    obtain ⟨i', _, q5, _⟩ := h6'.info
    have e0 := q5.info
    rw [q1] at e0; cases e0
    have hzl : zv.cells.size = t.size := by have := (q4 (md I C.B) w).len; simpa using this
    have hbytes : (i.bytes : Int) * (m' : Int) ≤ 281474976710656 := by
      have : i.bytes * m' ≤ 48000 * lim := Nat.mul_le_mul (by have := q5.bytes; omega) h2
      have h3 : ((i.bytes * m' : Nat) : Int) ≤ 281474976710656 := by unfold lim at this; omega
      rwa [Int.natCast_mul] at h3
    have hrun := run_make (P := E.P) w T S i zv h5 q1 q2 kl kc (n' : Int) (m' : Int) (by omega) (by omega) hbytes (by unfold lim at h2; omega)
    simp only [Int.toNat_natCast, q5.size] at hrun
    rw [← hzl] at hrun
    refine .new (d := d) (cells := madeCells zv.cells (m' * zv.cells.size)) (T := S) (cs := [.slice (some ⟨w.heap.size, 0, none⟩) n' m']) (f := [w.heap.size]) hd hR ?_ rfl ?_ (by simp) (by simp) h
    · simp [execOp, ho, hvl, hvc, regV, hrun]
    · refine ⟨some ⟨w.heap.size, 0, none⟩, m', by simp, .inr ⟨w.heap.size, 0, List.replicate n' [], rfl, by simp, by simp, by simpa using h1, Fr.alloc (by rw [size_madeCells, hzl]; omega), fun k x g hx hg => ?_⟩⟩
      have hk : k < n' := by have := (List.getElem?_eq_some_iff.1 hx).1; simpa using this
      obtain rfl : z = x := by rw [List.getElem?_replicate, if_pos hk] at hx; exact Option.some.inj hx
      obtain rfl : [] = g := by rw [List.getElem?_replicate, if_pos hk] at hg; exact Option.some.inj hg
      refine ⟨zv.cells.toList, by simpa using hzl, At.alloc (fun j v hj => ?_), q4 _ _⟩
      rw [Nat.zero_add, ← hzl]
      exact madeCells_get _ _ _ _ _ (by rw [hzl]; exact h6'.pos) (by simpa using hj) (by omega)
def allocF (tt : List (TypeId × Ty)) (an : List (Nat × Ty)) (h : List (Nat × Tree)) (d : Nat) (T : TypeId) : Res :=
  match lk tt T, lk an d, lk h d with
  | some u, some t, none => match zeroD t with
    | some z => bif sameLay u t then .tot (.ref d []) [(d, ⟨.optr t, z⟩)] else .bad
    | none => .bad
  | _, _, _ => .bad
theorem Yields.box {d : Nat} {τ : Ty} {x : τ.den} {cs : List Value} {T : TypeId} (hn : lk st.h d = none) (hR : RelAt C st a.tmps w I rt fp) (_hT : TyF E.P τ T)
    (hr : (execOp a.eval o).run E.P w = .ok (.value (.pointer (some ⟨w.heap.size, 0, none⟩))) (w.alloc (.cells cs.toArray T))) (hrep : ∀ w', (∀ m b, md I C.B m b → Sm w w' b) → Rep (md I C.B) w' τ cs x [])
    (hq : Q (.ref d []) [(d, ⟨.optr τ, x⟩)]) : Yields E C st a w I rt fp o Q := by
  have hM : ∀ m b, md I C.B m b → Sm w (w.alloc (.cells cs.toArray T)) b := fun m b hb => .of_heap ((Grew.alloc w _).heap b (hR.ib b (md_or hb)))
  have hr' := hrep _ hM
  have hlen := hr'.len
  refine .new (d := d) (t := ⟨.optr τ, x⟩) (cs := [.pointer (some ⟨w.heap.size, 0, none⟩)]) (f := [w.heap.size]) hn hR hr rfl
    ⟨w.heap.size, 0, [], cs, rfl, rfl, hlen, At.alloc (fun j v hj => by simpa using hj), Fr.alloc (by simp [hlen]), hr'⟩ (by simp) (by simp) hq
theorem allocF_sound (hR : RelAt C st a.tmps w I rt fp) {an : List (Nat × Ty)} {d : Nat} {T : TypeId} (ho : o.op = .alloc T) (h : (allocF E.tt an st.h d T).K Q) : Yields E C st a w I rt fp o Q := by
  unfold allocF at h
  split at h
  case h_2 => exact h.elim
  rename_i u t hT han hd
  split at h
  case h_2 => exact h.elim
  rename_i z hz
  cases hb : sameLay u t with
  | false => rw [hb] at h; exact h.elim
  | true =>
    rw [hb] at h
    have hf := (E.ok T u hT).lay hb
    obtain ⟨i, zv, q1, q2, q3, q4⟩ := zero_rep hf hz
    refine .box (cs := zv.cells.toList) hd hR hf ?_ (fun w' _ => q4 _ _) h
    simp [execOp, ho, Instr.alloc, zeroValue, typeInfo, q1, q2, newVar, newRow]
def boxF (tt : List (TypeId × Ty)) (h : List (Nat × Tree)) (d : Nat) (T : TypeId) (x : AV) : Res :=
  match lk tt T, lk h d with
  | some u, none => match x with
    | .val τ x => bif sameLay u τ then .tot (.ref d []) [(d, ⟨.optr τ, x⟩)] else .bad
    | _ => .bad
  | _, _ => .bad
theorem boxF_sound (hR : RelAt C st a.tmps w I rt fp) {d : Nat} {T : TypeId} {x : Operand} (ho : o.op = .box T x) (h : (boxF E.tt st.h d T (opA st.g x)).K Q) : Yields E C st a w I rt fp o Q := by
  have hx := hR.opA x
  unfold boxF at h
  split at h
  case h_2 => exact h.elim
  rename_i u hT hd
  split at h
  case h_2 => exact h.elim
  rename_i τ y ex
  cases hb : sameLay u τ with
  | false => rw [hb] at h; exact h.elim
  | true =>
    rw [hb] at h
    rw [ex] at hx
    generalize hv : a.eval x = v at hx
    cases hx with | val r =>
    rename_i cs
    have hf := (E.ok T u hT).lay hb
    refine .box (cs := cs) hd hR hf ?_ (fun w' hM => r.mono (fun m b hb => ⟨hb, hM m b hb⟩) (by simp)) h
    simp [execOp, ho, hv, Instr.box, newVar, newRow, regV_cells hf r.len r.one]
def coe (t : Ty) (x : AV) : Option t.den :=
  match x with
  | .val τ x => if h : τ = t then some (h ▸ x) else none
  | .cv v => cvC t v.cells.toList
  | _ => none
def coes (t : Ty) : List AV → Option (List t.den)
  | [] => some []
  | x :: r => match coe t x, coes t r with
    | some y, some l => some (y :: l)
    | _, _ => none
theorem coe_rep {M : Md → Nat → Prop} {h : List (Nat × Tree)} {t : Ty} {T : TypeId} (hT : TyF E.P t T) {x : AV} {v : Value} (hx : AVok M w h rt fp x v) {y : t.den} (hc : coe t x = some y) : Rep M w t v.cells.toList y [] := by
  unfold coe at hc
  split at hc
  · rename_i τ z
    split at hc
    · rename_i e
      subst e
      cases hc
      cases hx with | val r =>
      rw [regV_cells hT r.len r.one]
      exact r
    · cases hc
  · cases hx
    exact cvC_rep hc
  · cases hc
def seqFrom : List (Nat × Operand) → Nat → Bool
  | [], _ => true
  | q :: r, k => Nat.beq q.1 k && seqFrom r (k + 1)
def bslF (tt : List (TypeId × Ty)) (an : List (Nat × Ty)) (h : List (Nat × Tree)) (g : Operand → AV) (d : Nat) (T : TypeId) (n : Nat) (parts : List (Nat × Operand)) : Res :=
  match isSlcT tt T, lk h d with
  | some u, none =>
    let t := match lk an d with | some (.osl t) => t | _ => u
    bif sameLay u t && Nat.ble t.size 2000 && Nat.ble n 1000 && seqFrom parts 0 && Nat.beq parts.length n then
      match coes t (parts.map fun q => g q.2) with
      | some xs => .tot (.ref d []) [(d, ⟨.osl t, xs⟩)]
      | none => .bad
    else .bad
  | _, _ => .bad
theorem coes_get {t : Ty} : ∀ {l : List AV} {xs : List t.den}, coes t l = some xs → xs.length = l.length ∧ ∀ (i : Nat) (x : t.den), xs[i]? = some x → ∃ y : AV, l[i]? = some y ∧ coe t y = some x
  | [], xs, h => by cases h; exact ⟨rfl, fun i x h => by simp at h⟩
  | y :: l, xs, h => by
      simp only [coes] at h
      split at h
      · rename_i z r hz hr
        cases h
        obtain ⟨h1, h2⟩ := coes_get hr
        refine ⟨by simp [h1], fun i x hi => ?_⟩
        cases i with
        | zero => simp only [List.getElem?_cons_zero, Option.some.injEq] at hi; subst hi; exact ⟨y, rfl, hz⟩
        | succ i => simpa using h2 i x (by simpa using hi)
      · cases h
theorem seqFrom_get : ∀ {l : List (Nat × Operand)} {k : Nat}, seqFrom l k = true → ∀ (i : Nat) (q : Nat × Operand), l[i]? = some q → q.1 = k + i
  | [], _, _, i, q, h => by simp at h
  | x :: l, k, h, i, q, hi => by
      simp only [seqFrom, Bool.and_eq_true] at h
      cases i with
      | zero => simp only [List.getElem?_cons_zero, Option.some.injEq] at hi; subst hi; exact Nat.eq_of_beq_eq_true h.1
      | succ i => have := seqFrom_get h.2 i q (by simpa using hi); omega
theorem bslF_sound (hR : RelAt C st a.tmps w I rt fp) {an : List (Nat × Ty)} {d : Nat} {T : TypeId} {n : Nat} {parts : Array (Nat × Operand)} (ho : o.op = .buildSlice T n parts)
    (h : (bslF E.tt an st.h (opA st.g) d T n parts.toList).K Q) : Yields E C st a w I rt fp o Q := by
  unfold bslF at h
  split at h
  case h_2 => exact h.elim
  rename_i u hT hd
  generalize ht : (match lk an d with | some (.osl t) => t | _ => u) = t at h
  simp only at h
  cases hb : (sameLay u t && Nat.ble t.size 2000 && Nat.ble n 1000 && seqFrom parts.toList 0 && Nat.beq parts.toList.length n) with
  | false => rw [hb] at h; exact h.elim
  | true =>
    rw [hb] at h
    simp only [Bool.and_eq_true] at hb
    obtain ⟨⟨⟨⟨b1, b2⟩, b3⟩, b4⟩, b5⟩ := hb
    have b2 := Nat.le_of_ble_eq_true b2
    have b3 := Nat.le_of_ble_eq_true b3
    have b5 : parts.toList.length = n := Nat.eq_of_beq_eq_true b5
    simp only [cond_true] at h
    split at h
    case h_2 => exact h.elim
    rename_i xs hxs
    obtain ⟨j, S, _, h5, h6⟩ := isSlcT.ok hT
    have h6' := h6.lay b1
    obtain ⟨i, dd, q5, _⟩ := h6'.info
    have hpos := h6'.pos
    obtain ⟨c1, c2⟩ := coes_get hxs
    simp only [List.length_map] at c1
    have hxn : xs.length = n := by omega
    have hlen : n * t.size ≤ 16777216 := by
      have : n * t.size ≤ 1000 * 2000 := Nat.mul_le_mul b3 b2
      omega
    -- each element's cells
    have hel : ∀ (k : Nat) (q : Nat × Operand), parts.toList[k]? = some q → ∃ x : t.den, xs[k]? = some x ∧ Rep (md I C.B) w t (a.eval q.2).cells.toList x [] := by
      intro k q hk
      have hkl : k < xs.length := by have := (List.getElem?_eq_some_iff.1 hk).1; omega
      obtain ⟨y, e1, e2⟩ := c2 k xs[k] (by simp)
      rw [List.getElem?_map, hk] at e1
      simp only [Option.map_some, Option.some.injEq] at e1
      subst e1
      exact ⟨xs[k], by simp, coe_rep h6' (hR.opA q.2) e2⟩
    obtain ⟨iz, hiz0, hiz1⟩ : ∃ zc : Array Value, (n * t.size = 0 → zc = #[]) ∧ (n * t.size ≠ 0 → ∃ zz, (zeroValue S).run E.P w = .ok zz w ∧ zc = zz.cells) := by
      by_cases h0 : n * t.size = 0
      · exact ⟨#[], fun _ => rfl, fun h => absurd h0 h⟩
      · obtain ⟨zz, _, hzz⟩ := TyF.hasZero h6'
        exact ⟨zz.cells, fun h => absurd h h0, fun _ => ⟨zz, by simp [zeroValue, typeInfo, q5.info, hzz i q5.info], rfl⟩⟩
    obtain ⟨r, r1, r2, r3, r4⟩ := fill_ok (fun i => some (i * t.size, t.size)) (parts.toList.map fun q => (q.1, a.eval q.2)) ((Array.range (n * t.size)).map (iz[· % iz.size]!)) (by
      intro q hq
      obtain ⟨p, hp, rfl⟩ := List.mem_map.1 hq
      obtain ⟨k, hk, rfl⟩ := List.mem_iff_getElem.1 hp
      have hk' : parts.toList[k]? = some parts.toList[k] := by simp
      obtain ⟨x, _, hx⟩ := hel k _ hk'
      have e := seqFrom_get b4 k _ hk'
      have : (k + 1) * t.size ≤ n * t.size := Nat.mul_le_mul_right _ (by omega)
      rw [Nat.add_mul, Nat.one_mul] at this
      refine ⟨_, _, rfl, by have := hx.len; simpa using this, ?_⟩
      simp only [Array.size_map, Array.size_range]
      rw [e, Nat.zero_add]
      exact this) (by
      rw [List.pairwise_iff_getElem]
      intro k l hk hl hkl o1 s1 o2 s2 e1 e2
      simp only [List.getElem_map, Option.some.injEq, Prod.mk.injEq] at e1 e2
      simp only [List.length_map] at hk hl
      have f1 := seqFrom_get b4 k parts.toList[k] (by simp)
      have f2 := seqFrom_get b4 l parts.toList[l] (by simp)
      obtain ⟨rfl, rfl⟩ := e1
      obtain ⟨rfl, rfl⟩ := e2
      left
      rw [f1, f2]
      have : (0 + k + 1) * t.size ≤ (0 + l) * t.size := Nat.mul_le_mul_right _ (by omega)
      rw [Nat.add_mul, Nat.one_mul] at this
      exact this)
    have hrs : r.size = n * t.size := by rw [r2]; simp
    refine .new (d := d) (t := ⟨.osl t, xs⟩) (cells := r) (T := S) (cs := [.slice (some ⟨w.heap.size, 0, none⟩) n n]) (f := [w.heap.size]) hd hR ?_ rfl ?_ (by simp) (by simp) h
    · have hsz := h6'.sizeOf w
      have hnb : ¬ (16777216 < n * t.size) := by omega
      have hpm : (Array.map (fun x => (x.fst, a.eval x.snd)) parts).toList = parts.toList.map fun q => (q.1, a.eval q.2) := by simp
      simp only [execOp, ho, Instr.buildSlice, Sem.run_bind, run_underlying h5, Result.andThen_ok, hsz]
      rw [if_neg (by omega)]
      by_cases h0 : n * t.size = 0
      · rw [if_pos h0]
        obtain rfl := hiz0 h0
        rw [hpm]
        simp only [Sem.run_bind, Sem.run_pure, Result.andThen_ok, r1, newRow, newObj]
        rfl
      · rw [if_neg h0]
        obtain ⟨zz, hz1, rfl⟩ := hiz1 h0
        rw [hpm]
        simp only [Sem.run_bind, Sem.run_pure, Result.andThen_ok, hz1, r1, newRow, newObj]
        rfl
    · refine ⟨some ⟨w.heap.size, 0, none⟩, n, by rw [hxn], .inr ⟨w.heap.size, 0, List.replicate n [], rfl, by simp, by simp [hxn], (by show xs.length ≤ n; omega), Fr.alloc (by rw [hrs]; omega), fun k x g hx hg => ?_⟩⟩
      have hk : k < n := by have : k < xs.length := (List.getElem?_eq_some_iff.1 hx).1; omega
      obtain rfl : [] = g := by rw [List.getElem?_replicate, if_pos hk] at hg; exact Option.some.inj hg
      have hk' : parts.toList[k]? = some (parts.toList[k]'(by omega)) := by simp
      obtain ⟨x', hx', hrep⟩ := hel k _ hk'
      rw [hx] at hx'
      obtain rfl := Option.some.inj hx'
      refine ⟨_, hrep.len, At.alloc (fun j v hj => ?_), hrep.mono (fun m b hb => ⟨hb, .of_heap ((Grew.alloc w _).heap b (hR.ib b (md_or hb)))⟩) (by simp)⟩
      have := r4 (parts.toList[k].1, a.eval parts.toList[k].2) (List.mem_map.2 ⟨parts.toList[k], List.getElem_mem _, rfl⟩) _ _ rfl j v (by simpa using hj)
      have e := seqFrom_get b4 k _ hk'
      rw [e, Nat.zero_add] at this
      simpa using this
end
end Go.Fw
end

section
namespace Go.Fw
def pk (l : List (Nat × Operand)) (n : Nat) : Option Operand := lk l n
def mkSt (g : Operand → AV) (parts : List (Nat × Operand)) : Ty → Nat → Option Tree
  | .pr a b, n =>
    match (match pk parts n with
      | none => match zeroD a with
        | some z => some (⟨a, z⟩ : Tree)
        | none => none
      | some x => match g x with
        | .val τ y => bif sameLay a τ then some ⟨τ, y⟩ else none
        | .cv v => match cvC a v.cells.toList with
          | some y => some ⟨a, y⟩
          | none => none
        | _ => none), mkSt g parts b (n + 1) with
    | some x, some y => some ⟨.pr x.1 y.1, (x.2, y.2)⟩
    | _, _ => none
  | .nil, _ => some ⟨.nil, ()⟩
  | _, _ => none
def incr : List (Nat × Operand) → Nat → Bool
  | [], _ => true
  | q :: r, k => Nat.ble k q.1 && incr r (q.1 + 1)
def nFlds : Ty → Nat
  | .pr _ b => nFlds b + 1
  | _ => 0
theorem incr_ge : ∀ {l : List (Nat × Operand)} {k : Nat}, incr l k = true → ∀ q ∈ l, k ≤ q.1
  | [], _, _, q, h => by cases h
  | x :: l, k, h, q, hq => by
      simp only [incr, Bool.and_eq_true] at h
      rcases List.mem_cons.1 hq with rfl | hq
      · exact Nat.le_of_ble_eq_true h.1
      · have := incr_ge h.2 q hq
        have := Nat.le_of_ble_eq_true h.1
        omega
theorem incr_pw : ∀ {l : List (Nat × Operand)} {k : Nat}, incr l k = true → l.Pairwise fun q r => q.1 < r.1
  | [], _, _ => List.Pairwise.nil
  | x :: l, k, h => by
      simp only [incr, Bool.and_eq_true] at h
      exact List.Pairwise.cons (fun q hq => by have := incr_ge h.2 q hq; omega) (incr_pw h.2)
theorem lk_mem {α : Type} : ∀ {l : List (Nat × α)} {k : Nat} {v : α}, lk l k = some v → (k, v) ∈ l
  | [], _, _, h => by cases h
  | (k0, v0) :: r, k, v, h => by
      rw [lk_cons] at h
      split at h
      · rename_i e; subst e; cases h; simp
      · exact List.mem_cons_of_mem _ (lk_mem h)
theorem lk_none {α : Type} : ∀ {l : List (Nat × α)} {k : Nat}, lk l k = none → ∀ q ∈ l, q.1 ≠ k
  | [], _, _, q, hq => by cases hq
  | (k0, v0) :: r, k, h, q, hq => by
      rw [lk_cons] at h
      split at h
      · cases h
      · rename_i e
        rcases List.mem_cons.1 hq with rfl | hq
        · exact e
        · exact lk_none h q hq
theorem nFlds_lt {P : Program} : ∀ {u : Ty} {fs : List Field} {off : Nat} {zs : List Value}, FldF P u fs off zs → ∀ n, n < nFlds u → ∃ s t, fldSteps u n = some (s, t)
  | .pr a b, f :: r, off, zs, h, 0, _ => ⟨_, _, rfl⟩
  | .pr a b, f :: r, off, zs, h, n + 1, hn => by
      obtain ⟨s, t, hs⟩ := nFlds_lt (u := b) h.2.2.2.2 n (by simp only [nFlds] at hn; omega)
      exact ⟨.snd :: s, t, by simp [fldSteps, hs]⟩
  | .pr _ _, [], _, _, h, _, _ => h.elim
  | .int _, _, _, _, _, _, hn => by simp [nFlds] at hn
  | .bool, _, _, _, _, _, hn => by simp [nFlds] at hn
  | .str, _, _, _, _, _, hn => by simp [nFlds] at hn
  | .slc _ _, _, _, _, _, _, hn => by simp [nFlds] at hn
  | .osl _, _, _, _, _, _, hn => by simp [nFlds] at hn
  | .ptr _ _, _, _, _, _, _, hn => by simp [nFlds] at hn
  | .optr _, _, _, _, _, _, hn => by simp [nFlds] at hn
  | .st _, _, _, _, _, _, hn => by simp [nFlds] at hn
  | .nil, _, _, _, _, _, hn => by simp [nFlds] at hn
  | .blk, _, _, _, _, _, hn => by simp [nFlds] at hn
theorem fldOff_mono : ∀ {u : Ty} {n m : Nat} {s s' : List Step} {t t' : Ty}, fldSteps u n = some (s, t) → fldSteps u m = some (s', t') → n < m → fldOff u n + t.size ≤ fldOff u m
  | .pr a b, 0, m + 1, s, s', t, t', h, h', _ => by
      simp only [fldSteps, Option.some.injEq, Prod.mk.injEq] at h
      obtain ⟨_, rfl⟩ := h
      simp [fldOff]
  | .pr a b, n + 1, m + 1, s, s', t, t', h, h', hl => by
      simp only [fldSteps] at h h'
      cases hq : fldSteps b n with
      | none => rw [hq] at h; cases h
      | some q =>
        cases hq' : fldSteps b m with
        | none => rw [hq'] at h'; cases h'
        | some q' =>
          rw [hq] at h; rw [hq'] at h'
          simp only [Option.some.injEq, Prod.mk.injEq] at h h'
          obtain ⟨_, rfl⟩ := h
          obtain ⟨_, rfl⟩ := h'
          have := fldOff_mono (u := b) (s := q.1) (t := q.2) (s' := q'.1) (t' := q'.2) hq hq' (by omega)
          simp only [fldOff]; omega
  | .int _, _, _, _, _, _, _, h, _, _ => by cases h
  | .bool, _, _, _, _, _, _, h, _, _ => by cases h
  | .str, _, _, _, _, _, _, h, _, _ => by cases h
  | .slc _ _, _, _, _, _, _, _, h, _, _ => by cases h
  | .osl _, _, _, _, _, _, _, h, _, _ => by cases h
  | .ptr _ _, _, _, _, _, _, _, h, _, _ => by cases h
  | .optr _, _, _, _, _, _, _, h, _, _ => by cases h
  | .st _, _, _, _, _, _, _, h, _, _ => by cases h
  | .nil, _, _, _, _, _, _, h, _, _ => by cases h
  | .blk, _, _, _, _, _, _, h, _, _ => by cases h
theorem fldSteps_lt : ∀ {u : Ty} {n : Nat} {s : List Step} {t : Ty}, fldSteps u n = some (s, t) → n < nFlds u
  | .pr a b, 0, _, _, _ => by simp [nFlds]
  | .pr a b, n + 1, s, t, h => by
      simp only [fldSteps] at h
      split at h
      · rename_i q hq
        have := fldSteps_lt (u := b) (s := q.1) (t := q.2) hq
        simp only [nFlds]; omega
      · cases h
  | .int _, _, _, _, h => by cases h
  | .bool, _, _, _, h => by cases h
  | .str, _, _, _, h => by cases h
  | .slc _ _, _, _, _, h => by cases h
  | .osl _, _, _, _, h => by cases h
  | .ptr _ _, _, _, _, h => by cases h
  | .optr _, _, _, _, h => by cases h
  | .st _, _, _, _, h => by cases h
  | .nil, _, _, _, h => by cases h
  | .blk, _, _, _, h => by cases h
theorem incr_lk : ∀ {l : List (Nat × Operand)} {k : Nat} {p : Nat × Operand}, incr l k = true → p ∈ l → pk l p.1 = some p.2
  | [], _, _, _, h => by cases h
  | x :: l, k, p, h, hp => by
      simp only [incr, Bool.and_eq_true] at h
      obtain ⟨x1, x2⟩ := x
      unfold pk
      rw [lk_cons]
      rcases List.mem_cons.1 hp with rfl | hp
      · rw [if_pos rfl]
      · have := incr_ge h.2 p hp
        simp only at this
        rw [if_neg (by omega)]
        exact incr_lk h.2 hp
section
variable {E : Env} {C : Ctx} {st : St} {a : Act} {w : World} {I : Nat → Prop} {rt : Nat → List Value} {fp : Nat → List Nat} {o : Oper} {Q : AV → List (Nat × Tree) → Prop}
def bldF (tt : List (TypeId × Ty)) (g : Operand → AV) (T : TypeId) (parts : List (Nat × Operand)) : Res :=
  match isStT tt T with
  | none => .bad
  | some u => bif incr parts 0 && parts.all (fun q => Nat.blt q.1 (nFlds u)) then match mkSt g parts u 0 with
      | some t => .tot (.val (.st t.1) t.2) []
      | none => .bad
    else .bad
theorem mkSt_rep {P : Program} {M : Md → Nat → Prop} {h : List (Nat × Tree)} {g : Operand → AV} {ev : Operand → Value} (hg : ∀ x, AVok M w h rt fp (g x) (ev x)) {parts : List (Nat × Operand)} {cells : List Value} :
    ∀ {u : Ty} {n : Nat} {fs : List Field} {off : Nat} {zs : List Value} {t : Tree}, FldF P u fs off zs → mkSt g parts u n = some t → cells.length = off + u.size →
      (∀ m s τ, fldSteps u m = some (s, τ) → (∀ x, pk parts (n + m) = some x → (ev x).cells.size = τ.size ∧ (cells.drop (off + fldOff u m)).take τ.size = (ev x).cells.toList) ∧ (pk parts (n + m) = none → (cells.drop (off + fldOff u m)).take τ.size = (zs.drop (fldOff u m)).take τ.size)) →
      Rep M w t.1 (cells.drop off) t.2 [] ∧ t.1.size = u.size
  | .pr a b, n, f :: r, off, zs, t, hF, hm, hl, hc => by
      simp only [mkSt] at hm
      split at hm
      case h_2 => cases hm
      rename_i x y hx hy
      cases hm
      obtain ⟨h1, h2, h3, ⟨i, z, q1, q2, q3⟩, h5⟩ := hF
      have hc0 := hc 0 _ a rfl
      simp only [Nat.add_zero, fldOff, List.drop_zero] at hc0
      have hA : Rep M w x.1 ((cells.drop off).take a.size) x.2 [] ∧ x.1.size = a.size := by
        split at hx
        · rename_i hp
          split at hx
          · rename_i z' hz
            cases hx
            obtain ⟨i', zv, r1, r2, _, r4⟩ := zero_rep h2 hz
            rw [q1] at r1; cases r1
            rw [q2] at r2; cases r2
            rw [hc0.2 hp, q3]
            exact ⟨r4 M w, rfl⟩
          · cases hx
        · rename_i p hp
          have hgp := hg p
          obtain ⟨k1, k2⟩ := hc0.1 p hp
          split at hx
          · rename_i τ y' e
            cases hb : sameLay a τ with
            | false => rw [hb] at hx; cases hx
            | true =>
              rw [hb] at hx
              cases hx
              rw [e] at hgp
              rw [k2]
              generalize hv : ev p = v at hgp
              cases hgp with | val rr =>
              rw [regV_cells (h2.lay hb) rr.len rr.one]
              exact ⟨rr, (sameLay.size hb).symm⟩
          · rename_i v e
            split at hx
            · rename_i y' hy'
              cases hx
              rw [e] at hgp
              rw [k2]
              generalize hv : ev p = v' at hgp
              cases hgp
              exact ⟨cvC_rep hy', rfl⟩
            · cases hx
          · cases hx
      have hB := mkSt_rep hg (parts := parts) (cells := cells) (u := b) (n := n + 1) (off := off + a.size) (zs := zs.drop a.size) h5 hy (by rw [hl]; simp only [Ty.size]; omega) (by
        intro m s τ hs
        have := hc (m + 1) (.snd :: s) τ (by simp [fldSteps, hs])
        simp only [fldOff] at this
        rw [show n + (m + 1) = n + 1 + m by omega, show off + (a.size + fldOff b m) = off + a.size + fldOff b m by omega] at this
        rw [List.drop_drop]
        exact this)
      refine ⟨⟨[], [], rfl, ?_, ?_⟩, by simp only [Ty.size]; omega⟩
      · rw [hA.2]; exact hA.1
      · rw [hA.2, List.drop_drop]; exact hB.1
  | .nil, n, [], off, zs, t, hF, hm, hl, hc => by
      cases hm
      exact ⟨⟨rfl, by rw [List.drop_eq_nil_iff]; simp only [Ty.size] at hl; omega⟩, rfl⟩
  | .pr _ _, _, [], _, _, _, h, _, _, _ => h.elim
  | .nil, _, _ :: _, _, _, _, h, _, _, _ => h.elim
  | .int _, _, _, _, _, _, h, _, _, _ => by cases h
  | .bool, _, _, _, _, _, h, _, _, _ => by cases h
  | .str, _, _, _, _, _, h, _, _, _ => by cases h
  | .slc _ _, _, _, _, _, _, h, _, _, _ => by cases h
  | .osl _, _, _, _, _, _, h, _, _, _ => by cases h
  | .ptr _ _, _, _, _, _, _, h, _, _, _ => by cases h
  | .optr _, _, _, _, _, _, h, _, _, _ => by cases h
  | .st _, _, _, _, _, _, h, _, _, _ => by cases h
  | .blk, _, _, _, _, _, h, _, _, _ => by cases h
theorem mkSt_size {P : Program} {M : Md → Nat → Prop} {h : List (Nat × Tree)} {g : Operand → AV} {ev : Operand → Value} (hg : ∀ x, AVok M w h rt fp (g x) (ev x)) {parts : List (Nat × Operand)} :
    ∀ {u : Ty} {n : Nat} {fs : List Field} {off : Nat} {zs : List Value} {t : Tree}, FldF P u fs off zs → mkSt g parts u n = some t →
      ∀ m s τ, fldSteps u m = some (s, τ) → ∀ x, pk parts (n + m) = some x → (ev x).cells.size = τ.size
  | .pr a b, n, f :: r, off, zs, t, hF, hm, m, s, τ, hs, x, hp => by
      simp only [mkSt] at hm
      split at hm
      case h_2 => cases hm
      rename_i x0 y0 hx hy
      obtain ⟨h1, h2, h3, ⟨i, z, q1, q2, q3⟩, h5⟩ := hF
      cases m with
      | zero =>
        simp only [fldSteps, Option.some.injEq, Prod.mk.injEq] at hs
        obtain ⟨_, rfl⟩ := hs
        rw [Nat.add_zero] at hp
        rw [hp] at hx
        have hgp := hg x
        simp only at hx
        split at hx
        · rename_i τ y' e
          cases hb : sameLay a τ with
          | false => rw [hb] at hx; cases hx
          | true =>
            rw [e] at hgp
            generalize hv : ev x = v at hgp
            cases hgp with | val rr =>
            rw [regV_cells (h2.lay hb) rr.len rr.one]
            have := rr.len
            have := sameLay.size hb
            simp; omega
        · rename_i v e
          split at hx
          · rename_i y' hy'
            rw [e] at hgp
            generalize hv : ev x = v' at hgp
            cases hgp
            have := (cvC_rep (M := M) (w := w) hy').len
            simpa using this
          · cases hx
        · cases hx
      | succ m =>
        simp only [fldSteps] at hs
        split at hs
        · rename_i q hq
          simp only [Option.some.injEq, Prod.mk.injEq] at hs
          obtain ⟨_, rfl⟩ := hs
          exact mkSt_size hg (u := b) (n := n + 1) h5 hy m q.1 q.2 hq x (by rwa [show n + 1 + m = n + (m + 1) by omega])
        · cases hs
  | .pr _ _, _, [], _, _, _, h, _, _, _, _, _, _, _ => h.elim
  | .nil, _, _, _, _, _, _, _, _, _, _, hs, _, _ => by cases hs
  | .int _, _, _, _, _, _, h, _, _, _, _, _, _, _ => by cases h
  | .bool, _, _, _, _, _, h, _, _, _, _, _, _, _ => by cases h
  | .str, _, _, _, _, _, h, _, _, _, _, _, _, _ => by cases h
  | .slc _ _, _, _, _, _, _, h, _, _, _, _, _, _, _ => by cases h
  | .osl _, _, _, _, _, _, h, _, _, _, _, _, _, _ => by cases h
  | .ptr _ _, _, _, _, _, _, h, _, _, _, _, _, _, _ => by cases h
  | .optr _, _, _, _, _, _, h, _, _, _, _, _, _, _ => by cases h
  | .st _, _, _, _, _, _, h, _, _, _, _, _, _, _ => by cases h
  | .blk, _, _, _, _, _, h, _, _, _, _, _, _, _ => by cases h
theorem run_places {P : Program} (w : World) : ∀ (u : Ty) (fs : List Field) (off : Nat) (zs : List Value), FldF P u fs off zs →
    (fs.mapM fun f => do Pure.pure (f.offset, ← sizeOf f.type) : Sem (List (Nat × Nat))).run P w = .ok ((List.range (nFlds u)).map fun n => (off + fldOff u n, match fldSteps u n with | some q => q.2.size | none => 0)) w
  | .pr a b, f :: r, off, zs, h => by
      have ih := run_places w b r (off + a.size) (zs.drop a.size) h.2.2.2.2
      simp only [List.mapM_cons, Sem.run_bind, h.2.1.sizeOf, Result.andThen_ok, Sem.run_pure, ih]
      simp only [nFlds, List.range_succ_eq_map, List.map_cons, List.map_map, h.1, fldOff, Nat.add_zero, fldSteps]
      congr 2
      apply List.map_congr_left
      intro n _
      simp only [Function.comp, fldOff, fldSteps]
      rw [Nat.add_assoc]
      cases fldSteps b n <;> rfl
  | .nil, [], _, _, _ => rfl
  | .pr _ _, [], _, _, h => h.elim
  | .nil, _ :: _, _, _, h => h.elim
  | .int _, _, _, _, h => by cases h
  | .bool, _, _, _, h => by cases h
  | .str, _, _, _, h => by cases h
  | .slc _ _, _, _, _, h => by cases h
  | .osl _, _, _, _, h => by cases h
  | .ptr _ _, _, _, _, h => by cases h
  | .optr _, _, _, _, h => by cases h
  | .st _, _, _, _, h => by cases h
  | .blk, _, _, _, h => by cases h
theorem bldF_sound (hR : RelAt C st a.tmps w I rt fp) {T : TypeId} {parts : Array (Nat × Operand)} (ho : o.op = .build T parts) (h : (bldF E.tt (opA st.g) T parts.toList).K Q) : Yields E C st a w I rt fp o Q := by
  unfold bldF at h
  split at h
  · exact h.elim
  rename_i u hT
  cases hb : (incr parts.toList 0 && parts.toList.all (fun q => Nat.blt q.1 (nFlds u))) with
  | false => rw [hb] at h; exact h.elim
  | true =>
    rw [hb] at h
    simp only [Bool.and_eq_true, List.all_eq_true] at hb
    obtain ⟨b1, b2⟩ := hb
    simp only [cond_true] at h
    split at h
    case h_2 => exact h.elim
    rename_i t ht
    obtain ⟨i, fs, zs, h1, h2, h4, h5, h6, h7⟩ : ∃ i fs zs, E.P.info? T = some i ∧ i.size = u.size ∧ i.zero = some (.agg zs) ∧ E.P.underlying T = some (.struct fs) ∧ FldF E.P u fs.toList 0 zs.toList ∧ zs.size = u.size := by
      unfold isStT at hT
      split at hT
      · rename_i u' hl
        cases hT
        obtain ⟨_, i, fs, zs, q1, q2, _, q4, q5, q6, q7⟩ := E.ok T _ hl
        exact ⟨i, fs, zs, q1, q2, q4, q5, q6, q7⟩
      · cases hT
    have hsz := mkSt_size (fun x => hR.opA x) h6 ht
    have hpl := run_places (P := E.P) w u fs.toList 0 zs.toList h6
    simp only [Nat.zero_add] at hpl hsz
    generalize hpls : ((List.range (nFlds u)).map fun n => (fldOff u n, match fldSteps u n with | some q => q.2.size | none => 0)) = pls at hpl
    have hplace : ∀ n s τ, fldSteps u n = some (s, τ) → n < nFlds u → pls.toArray[n]? = some (fldOff u n, τ.size) := by
      intro n s τ hs hn
      rw [← hpls]
      simp [hn, hs]
    obtain ⟨r, r1, r2, r3, r4⟩ := fill_ok (fun i => pls.toArray[i]?) (parts.toList.map fun q => (q.1, a.eval q.2)) zs (by
      intro q hq
      obtain ⟨p, hp, rfl⟩ := List.mem_map.1 hq
      have hlt : p.1 < nFlds u := Nat.le_of_ble_eq_true (b2 p hp)
      obtain ⟨s, τ, hs⟩ := nFlds_lt h6 p.1 hlt
      refine ⟨_, _, hplace _ _ _ hs hlt, hsz _ _ _ hs p.2 ?_, by rw [h7]; exact fldSteps_le hs⟩
      exact incr_lk b1 hp) (by
      rw [List.pairwise_map]
      refine (incr_pw b1).imp_of_mem ?_
      intro q q' hq hq' hlt o1 s1 o2 s2 e1 e2
      have l1 : q.1 < nFlds u := Nat.le_of_ble_eq_true (b2 q hq)
      have l2 : q'.1 < nFlds u := Nat.le_of_ble_eq_true (b2 q' hq')
      obtain ⟨sa, ta, ha⟩ := nFlds_lt h6 q.1 l1
      obtain ⟨sb, tb, hb⟩ := nFlds_lt h6 q'.1 l2
      rw [hplace _ _ _ ha l1] at e1
      rw [hplace _ _ _ hb l2] at e2
      cases e1; cases e2
      exact .inl (fldOff_mono ha hb hlt))
    have hrl : r.toList.length = u.size := by simp [r2, h7]
    obtain ⟨g1, g2⟩ := mkSt_rep (w := w) (fun x => hR.opA x) (parts := parts.toList) (cells := r.toList) (u := u) (n := 0) (off := 0) h6 ht (by omega) (by
      intro m s τ hs
      have hm : m < nFlds u := fldSteps_lt hs
      simp only [Nat.zero_add]
      have hle := fldSteps_le hs
      refine ⟨fun x hx => ?_, fun hx => ?_⟩
      · have hmem := lk_mem hx
        have hz := hsz m s τ hs x hx
        refine ⟨hz, ?_⟩
        apply List.ext_getElem?
        intro j
        rcases Nat.lt_or_ge j τ.size with hj | hj
        · obtain ⟨v, hv⟩ : ∃ v, (a.eval x).cells[j]? = some v := ⟨_, Array.getElem?_eq_getElem (by omega)⟩
          have := r4 (m, a.eval x) (List.mem_map.2 ⟨(m, x), hmem, rfl⟩) _ _ (hplace _ _ _ hs hm) j v hv
          rw [List.getElem?_take_of_lt hj, List.getElem?_drop]
          simp only [Array.getElem?_toList]
          rw [this, hv]
        · rw [List.getElem?_eq_none (by simp; omega), List.getElem?_eq_none (by simp; omega)]
      · apply List.ext_getElem?
        intro j
        rcases Nat.lt_or_ge j τ.size with hj | hj
        · rw [List.getElem?_take_of_lt hj, List.getElem?_take_of_lt hj, List.getElem?_drop, List.getElem?_drop]
          simp only [Array.getElem?_toList]
          refine r3 _ ?_
          intro q hq o1 s1 e1
          obtain ⟨p, hp, rfl⟩ := List.mem_map.1 hq
          have hne := lk_none hx p hp
          have l1 : p.1 < nFlds u := Nat.le_of_ble_eq_true (b2 p hp)
          obtain ⟨sa, ta, ha⟩ := nFlds_lt h6 p.1 l1
          rw [hplace _ _ _ ha l1] at e1
          cases e1
          rcases Nat.lt_or_gt_of_ne hne with hlt | hgt
          · have := fldOff_mono ha hs hlt; omega
          · have := fldOff_mono hs ha hgt; omega
        · rw [List.getElem?_eq_none (by simp; omega), List.getElem?_eq_none (by simp; omega)])
    rw [List.drop_zero] at g1
    refine .pure (v := .agg r) ?_ (.val (τ := .st t.1) (cs := r.toList) g1) h
    have hpm : (Array.map (fun x => (x.fst, a.eval x.snd)) parts).toList = parts.toList.map fun q => (q.1, a.eval q.2) := by simp
    have hpl' : (fs.mapM fun f => do Pure.pure (f.offset, ← sizeOf f.type) : Sem (Array (Nat × Nat))).run E.P w = .ok pls.toArray w := by
      rw [Array.mapM_eq_mapM_toList, Sem.run_map, hpl]; rfl
    have hz : (zeroValue T).run E.P w = .ok (.agg zs) w := by simp [zeroValue, typeInfo, h1, h4]
    simp only [execOp, ho, Instr.build, Sem.run_bind, hz, run_underlying h5, Result.andThen_ok, hpl', hpm, Value.cells, r1]
    rfl
end
end Go.Fw
end

section
namespace Go.Fw
section
variable {E : Env} {C : Ctx} {st : St} {a : Act} {w : World} {I : Nat → Prop} {rt : Nat → List Value} {fp : Nat → List Nat} {o : Oper} {Q : AV → List (Nat × Tree) → Prop}
def pickF (c x y : AV) : Res :=
  match c with
  | .val .bool c => .part Bool (fun b => c = b) (fun b => (match b with | true => x | false => y, []))
  | _ => .bad
theorem pickF_sound (hR : RelAt C st a.tmps w I rt fp) {c x y : Operand} (ho : o.op = .pick c x y) (h : (pickF (opA st.g c) (opA st.g x) (opA st.g y)).K Q) : Yields E C st a w I rt fp o Q := by
  have hc := hR.opA c
  unfold pickF at h
  split at h
  case h_2 => exact h.elim
  rename_i b ec
  obtain ⟨b, rfl, h⟩ := h
  rw [ec] at hc
  generalize hv : a.eval c = v at hc
  cases hc with | val r =>
  obtain ⟨_, rfl⟩ := r
  cases b
  · exact .pure (v := a.eval y) (by simp [execOp, ho, hv, regV, asBool]) (hR.opA y) h
  · exact .pure (v := a.eval x) (by simp [execOp, ho, hv, regV, asBool]) (hR.opA x) h
def unF (op : UnOp) (x : AV) : Res :=
  match op, x with
  | .neg, .val (.int k) x => .part Int (fun z => k.wrap (0 - x) = z) (fun z => (.val (.int k) z, []))
  | .xor, .val (.int k) x => .part Int (fun z => k.wrap (BitVec.ofInt k.bits (if k.signed then -1 else k.max) ^^^ BitVec.ofInt k.bits x).toNat = z) (fun z => (.val (.int k) z, []))
  | .not, .val .bool b => .tot (.val .bool (!b)) []
  | _, _ => .bad
theorem unF_sound (hR : RelAt C st a.tmps w I rt fp) {op : UnOp} {T : TypeId} {x : Operand} (ho : o.op = .unOp op T x) (h : (unF op (opA st.g x)).K Q) : Yields E C st a w I rt fp o Q := by
  have hx := hR.opA x
  unfold unF at h
  generalize hv : a.eval x = v at hx
  split at h
  · rename_i k n ex
    obtain ⟨z, rfl, h⟩ := h
    rw [ex] at hx
    cases hx with | val r =>
    obtain ⟨_, rfl⟩ := r
    exact .pure (v := .int k _) (by simp only [execOp, ho, hv, regV, Op.unary, Op.intArith]; rfl) (.int k _) h
  · rename_i k n ex
    obtain ⟨z, rfl, h⟩ := h
    rw [ex] at hx
    cases hx with | val r =>
    obtain ⟨_, rfl⟩ := r
    exact .pure (v := .int k _) (by simp only [execOp, ho, hv, regV, Op.unary, Op.intBits]; rfl) (.int k _) h
  · rename_i b ex
    rw [ex] at hx
    cases hx with | val r =>
    obtain ⟨_, rfl⟩ := r
    exact .pure (v := .bool _) (by simp only [execOp, ho, hv, regV, Op.unary]; rfl) (.bool _) h
  · exact h.elim
def convF (tt : List (TypeId × Ty)) (s d : TypeId) (x : AV) : Res :=
  match lk tt s, lk tt d, x with
  | some (.int _), some (.int k), .val (.int _) x => .part Int (fun z => k.wrap x = z) (fun z => (.val (.int k) z, []))
  | _, _, _ => .bad
theorem convF_sound (hR : RelAt C st a.tmps w I rt fp) {s d : TypeId} {x : Operand} (ho : o.op = .convert s d x) (h : (convF E.tt s d (opA st.g x)).K Q) : Yields E C st a w I rt fp o Q := by
  have hx := hR.opA x
  unfold convF at h
  split at h
  case h_2 => exact h.elim
  rename_i k1 k2 k3 n h1 h2 ex
  obtain ⟨z, rfl, h⟩ := h
  generalize hv : a.eval x = v at hx
  rw [ex] at hx
  cases hx with | val r =>
  obtain ⟨_, rfl⟩ := r
  obtain ⟨_, _, _, _, _, u1⟩ := E.ok s _ h1
  obtain ⟨_, _, _, _, _, u2⟩ := E.ok d _ h2
  exact .pure (v := .int k2 _) (by simp [execOp, ho, hv, regV, convert, run_underlying u1, run_underlying u2, Conv.intToInt]) (.int k2 _) h
def strI (s : ByteArray) (n : Int) : Option Int := if 0 ≤ n then (s[n.toNat]?).map fun b => (b.toNat : Int) else none
def strF (tt : List (TypeId × Ty)) (T : TypeId) (x i : AV) : Res :=
  match lk tt T, x, i with
  | some .str, .cv (.string s), .val (.int _) n => .part Int (fun b => strI s n = some b) (fun b => (.val (.int .u8) b, []))
  | some .str, .val .str s, .val (.int _) n => .part Int (fun b => strI s n = some b) (fun b => (.val (.int .u8) b, []))
  | _, _, _ => .bad
theorem strF_sound (hR : RelAt C st a.tmps w I rt fp) {T : TypeId} {x i : Operand} (ho : o.op = .index T x i) (h : (strF E.tt T (opA st.g x) (opA st.g i)).K Q) : Yields E C st a w I rt fp o Q := by
  have hx := hR.opA x
  have hi := hR.opA i
  have fin : ∀ (s : ByteArray) (k : IntKind) (n b : Int), lk E.tt T = some .str → a.eval x = .string s → a.eval i = .int k n → strI s n = some b → Q (.val (.int .u8) b) [] → Yields E C st a w I rt fp o Q := by
    intro s k n b hT ex ei hb hq
    obtain ⟨_, _, _, _, _, u⟩ := E.ok T _ hT
    refine .pure (v := .int .u8 b) ?_ (.int .u8 b) hq
    unfold strI at hb
    split at hb
    case isFalse => cases hb
    rename_i h0
    obtain ⟨c, hc, rfl⟩ := Option.map_eq_some_iff.1 hb
    simp [execOp, ho, Instr.index, ex, ei, asIntOf, run_underlying u, h0, hc]
  unfold strF at h
  split at h
  · rename_i s k n hT ex ei
    obtain ⟨b, hb, hq⟩ := h
    rw [ex] at hx
    rw [ei] at hi
    generalize hv : a.eval x = v at hx
    generalize hu : a.eval i = u at hi
    cases hx
    cases hi with | val r =>
    obtain ⟨_, rfl⟩ := r
    exact fin s k n b hT hv hu hb hq
  · rename_i s k n hT ex ei
    obtain ⟨b, hb, hq⟩ := h
    rw [ex] at hx
    rw [ei] at hi
    generalize hv : a.eval x = v at hx
    generalize hu : a.eval i = u at hi
    cases hx with | val r1 =>
    obtain ⟨_, rfl⟩ := r1
    cases hi with | val r =>
    obtain ⟨_, rfl⟩ := r
    exact fin s k n b hT hv hu hb hq
  · exact h.elim
def extF (x : AV) (n : Nat) : Res :=
  match x with
  | .tup l => match l[n]? with
    | some av => .tot av []
    | none => .bad
  | _ => .bad
theorem extF_sound (hR : RelAt C st a.tmps w I rt fp) {x : Operand} {n : Nat} (ho : o.op = .extract x n) (h : (extF (opA st.g x) n).K Q) : Yields E C st a w I rt fp o Q := by
  have hx := hR.opA x
  unfold extF at h
  generalize hv : a.eval x = v at hx
  split at h
  case h_2 => exact h.elim
  rename_i l ex
  split at h
  case h_2 => exact h.elim
  rename_i av hl
  rw [ex] at hx
  cases hx with | tup hll hh =>
  rename_i vs
  have hn : n < vs.size := by have := (List.getElem?_eq_some_iff.1 hl).1; omega
  have : vs[n]? = some vs[n] := Array.getElem?_eq_getElem hn
  exact .pure (v := vs[n]) (by simp [execOp, ho, hv, Instr.extract, this]) (hh n av _ hl this) h
def mmF (mx : Bool) (x : AV) : List AV → Res
  | [] => .tot x []
  | y :: r => match x, y with
    | .val (.int k) x, .val (.int k') y => if k = k' then (match mx with | true => mmF mx (.val (.int k) (if y > x then y else x)) r | false => mmF mx (.val (.int k) (if y < x then y else x)) r) else .bad
    | _, _ => .bad
theorem mmF_sound (hR : RelAt C st a.tmps w I rt fp) (mx : Bool) : ∀ (r : List Operand) (x : AV) (v : Value), AVok (md I C.B) w st.h rt fp x v → (mmF mx x (r.map (opA st.g))).K Q →
    ∃ v' av, ((r.map a.eval).foldlM (match mx with | true => Builtin.max2 | false => Builtin.min2) v).run E.P w = .ok v' w ∧ AVok (md I C.B) w st.h rt fp av v' ∧ Q av []
  | [], x, v, hx, h => ⟨v, x, rfl, hx, h⟩
  | y :: r, x, v, hx, h => by
      have hy := hR.opA y
      simp only [List.map_cons, mmF] at h
      generalize hv : a.eval y = u at hy
      split at h
      case h_2 => exact h.elim
      rename_i k m k' n ey
      split at h
      case isFalse => exact h.elim
      rename_i hk
      subst hk
      rw [ey] at hy
      cases hx with | val r1 => cases hy with | val r2 =>
      obtain ⟨_, rfl⟩ := r1
      obtain ⟨_, rfl⟩ := r2
      cases mx
      · obtain ⟨v', av, q1, q2, q3⟩ := mmF_sound hR false r _ _ (.int k _) h
        refine ⟨v', av, ?_, q2, q3⟩
        simp only [List.map_cons, List.foldlM_cons, hv, Sem.run_bind]
        exact q1
      · obtain ⟨v', av, q1, q2, q3⟩ := mmF_sound hR true r _ _ (.int k _) h
        refine ⟨v', av, ?_, q2, q3⟩
        simp only [List.map_cons, List.foldlM_cons, hv, Sem.run_bind]
        exact q1
def isVal : AV → Bool
  | .val _ _ | .cv _ | .clo _ _ => true
  | _ => false
def evalF (tt : List (TypeId × Ty)) (an : List (Nat × Ty)) (h : List (Nat × Tree)) (g : Operand → AV) (d : Nat) (op : Op) : Res :=
  match op with
  | .move x => .tot (g x) []
  | .assign x => bif isVal (g x) then .tot (g x) [] else .bad
  | .pick c x y => pickF (g c) (g x) (g y)
  | .alloc T => allocF tt an h d T
  | .box T x => boxF tt h d T (g x)
  | .build T ps => bldF tt g T ps.toList
  | .buildSlice T n ps => bslF tt an h g d T n ps.toList
  | .load T x => loadF tt h T (g x)
  | .nilCheck x => nilF h (g x)
  | .binOp op T x y _ => match g x, g y with
    | .val .bool p, .val .bool q => match lk tt T with
      | some .bool => binF op (.val .bool p) (.val .bool q)
      | _ => .bad
    | .val (.int k) m, .val (.int k') n => binI op k m k' n
    | _, _ => .bad
  | .unOp op _ x => unF op (g x)
  | .convert s d x => convF tt s d (g x)
  | .makeSlice T l c => makeF tt an h d T (g l) (g c)
  | .slice T x lo hi none => slcF tt h T (g x) (lo.map g) (hi.map g)
  | .fieldAddr T x n => fldAF tt h T (g x) n
  | .field T x n => fldF tt h T (g x) n
  | .indexAddr T x i => idxF tt h T (g x) (g i)
  | .index T x i => strF tt T (g x) (g i)
  | .extract x n => extF (g x) n
  | .call c => match c.callee, c.args.toList, c.argTypes.toList with
    | .builtin .len, [x], [T] => lenF tt h T (g x)
    | .builtin .max, x :: r, _ => mmF true (g x) (r.map g)
    | .builtin .min, x :: r, _ => mmF false (g x) (r.map g)
    | _, _, _ => .bad
  | .makeFunc (.func f) fs cs => bif fs.isEmpty then .tot (.clo f (cs.toList.map g)) [] else .bad
  | _ => .bad
theorem evalF_sound (hR : RelAt C st a.tmps w I rt fp) {an : List (Nat × Ty)} {d : Nat} (h : (evalF E.tt an st.h (opA st.g) d o.op).K Q) : Yields E C st a w I rt fp o Q := by
  unfold evalF at h
  split at h
  · rename_i x ho
    exact .pure (v := a.eval x) (by simp [execOp, ho]) (hR.opA x) h
  · rename_i x ho
    cases hb : isVal (opA st.g x) with
    | false => rw [hb] at h; exact h.elim
    | true => rw [hb] at h; exact .pure (v := a.eval x) (by simp [execOp, ho]) (hR.opA x) h
  · rename_i ho; exact pickF_sound hR ho h
  · rename_i ho; exact allocF_sound hR ho h
  · rename_i ho; exact boxF_sound hR ho h
  · rename_i ho; exact bldF_sound hR ho h
  · rename_i ho; exact bslF_sound hR ho h
  · rename_i ho; exact loadF_sound hR ho h
  · rename_i ho; exact nilF_sound hR ho h
  · rename_i op T x y u ho
    split at h
    · rename_i p q ex ey
      split at h
      · rename_i hT
        refine binF_sound hR ho (fun _ _ _ _ => ?_) (by rw [ex, ey]; exact h)
        exact (E.ok T _ hT).choose_spec.2.2.2.2
      · exact h.elim
    · rename_i ex ey
      refine binF_sound hR ho (fun p q _ hh => ?_) (by rw [ex, ey]; exact h)
      rw [ex] at hh; cases hh.1
    · exact h.elim
  · rename_i ho; exact unF_sound hR ho h
  · rename_i ho; exact convF_sound hR ho h
  · rename_i ho; exact makeF_sound hR ho h
  · rename_i ho; exact slcF_sound hR ho h
  · rename_i ho; exact fldAF_sound hR ho h
  · rename_i ho; exact fldF_sound hR ho h
  · rename_i ho; exact idxF_sound hR ho h
  · rename_i ho; exact strF_sound hR ho h
  · rename_i ho; exact extF_sound hR ho h
  · rename_i c ho
    obtain ⟨callee, args, argTypes⟩ := c
    simp only at h
    split at h
    · rename_i x T e1 e2
      have e1' : args = #[x] := by cases args; simp_all
      have e2' : argTypes = #[T] := by cases argTypes; simp_all
      subst e1'; subst e2'
      exact lenF_sound hR ho h
    · rename_i x r e1
      have e1' : args = (x :: r).toArray := by cases args; simp_all
      obtain ⟨v', av, q1, q2, q3⟩ := mmF_sound (E := E) hR true r _ _ (hR.opA x) h
      refine .pure (v := v') ?_ q2 q3
      simp only [execOp, ho, resolve, invoke, builtin, Sem.run_bind, Sem.run_pure, Result.andThen_ok, e1', Builtin.max_]
      simp only [List.map_toArray, List.map_cons, q1]
      rfl
    · rename_i x r e1
      have e1' : args = (x :: r).toArray := by cases args; simp_all
      obtain ⟨v', av, q1, q2, q3⟩ := mmF_sound (E := E) hR false r _ _ (hR.opA x) h
      refine .pure (v := v') ?_ q2 q3
      simp only [execOp, ho, resolve, invoke, builtin, Sem.run_bind, Sem.run_pure, Result.andThen_ok, e1', Builtin.min_]
      simp only [List.map_toArray, List.map_cons, q1]
      rfl
    · exact h.elim
  · rename_i f fs cs ho
    cases he : fs.isEmpty with
    | false => rw [he] at h; exact h.elim
    | true =>
      rw [he] at h
      obtain rfl : fs = #[] := by simpa using he
      refine .pure (v := .func (.func f) #[] (cs.map a.eval)) (by simp [execOp, ho, Instr.makeFunc]) (.clo (by simp) (fun i x v h1 h2 => ?_)) h
      rw [List.getElem?_map] at h1
      rw [Array.getElem?_map] at h2
      obtain ⟨y, hy, rfl⟩ := Option.map_eq_some_iff.1 h1
      obtain ⟨z, hz, rfl⟩ := Option.map_eq_some_iff.1 h2
      obtain rfl : y = z := by simpa [hz] using hy.symm
      exact hR.opA y
  · exact h.elim
end
end Go.Fw
end

section
namespace Go.Fw
def memN (i : Nat) (S : List Nat) : Bool := S.any fun j => Nat.beq j i
theorem memN_iff {i : Nat} {S : List Nat} : memN i S = true ↔ i ∈ S := by
  simp only [memN, List.any_eq_true]
  constructor
  · rintro ⟨j, hj, h⟩; rw [← Nat.eq_of_beq_eq_true h]; exact hj
  · exact fun h => ⟨i, h, Nat.beq_refl i⟩
def AV.uses (S : List Nat) (a : AV) : Bool := a.ids.any fun i => memN i S
def sibR : List Step → Option (List Step)
  | .unst :: p => (sibR p).map fun r => .unst :: r
  | .fst :: _ => some [.snd]
  | .snd :: _ => some [.fst]
  | _ => none
def sibP : List Step → List Step → Option (List Step)
  | p, [] => sibR p
  | .idx _ :: p, .idx _ :: q => sibP p q
  | .deref :: p, .deref :: q => sibP p q
  | .unst :: p, .unst :: q => sibP p q
  | .fst :: p, .fst :: q => sibP p q
  | .snd :: p, .snd :: q => sibP p q
  | _, _ => none
def keepA (p q : List Step) : Bool := keepP p q || (sibP p q).isSome
theorem sibR_keep : ∀ {p r : List Step}, sibR p = some r → keepP p r = true
  | .unst :: p, r, h => by
      obtain ⟨r', h1, rfl⟩ := Option.map_eq_some_iff.1 h
      exact sibR_keep (p := p) h1
  | .fst :: _, _, h => by cases h; rfl
  | .snd :: _, _, h => by cases h; rfl
  | [], _, h => by cases h
  | .idx _ :: _, _, h => by cases h
  | .deref :: _, _, h => by cases h
theorem sibP_keep : ∀ {q p r : List Step}, sibP p q = some r → keepP p (q ++ r) = true
  | [], p, r, h => by
      have h' : sibR p = some r := by cases p <;> exact h
      exact sibR_keep h'
  | s :: q, p, r, h => by
      cases p with
      | nil => cases s <;> cases h
      | cons s' p => cases s <;> cases s' <;> first | (cases h; done) | exact sibP_keep (q := q) (p := p) h
theorem sibR_nav : ∀ {p r : List Step} {τ τp : Ty}, tyAt τ p = some τp → sibR p = some r → ∃ (τ2 : Ty) (k : Nat), ∀ (w : World) (l : Loc) (cs : List Value), ∃ c2, Nav w τ l cs r τ2 (l.map fun q => (q.1, q.2 + k)) c2
  | .unst :: p, r, τ, τp, ht, h => by
      obtain ⟨r', h1, rfl⟩ := Option.map_eq_some_iff.1 h
      cases τ with
      | st t => exact sibR_nav (p := p) (τ := t) ht h1
      | _ => cases ht
  | .fst :: p, r, τ, τp, ht, h => by
      cases h
      cases τ with
      | pr a b => exact ⟨b, a.size, fun w l cs => ⟨_, Nav.here⟩⟩
      | _ => cases ht
  | .snd :: p, r, τ, τp, ht, h => by
      cases h
      cases τ with
      | pr a b =>
        refine ⟨a, 0, fun w l cs => ⟨cs.take a.size, ?_⟩⟩
        have : (l.map fun q => (q.1, q.2 + 0)) = l := by cases l <;> rfl
        rw [this]
        exact Nav.here
      | _ => cases ht
  | [], _, _, _, _, h => by cases h
  | .idx _ :: _, _, _, _, _, h => by cases h
  | .deref :: _, _, _, _, _, h => by cases h
theorem sibP_nav {w : World} : ∀ {q p r : List Step} {τ τp : Ty} {l : Loc} {cs : List Value} {τq : Ty} {lq : Loc} {cq : List Value}, tyAt τ p = some τp → sibP p q = some r → Nav w τ l cs q τq lq cq → ∃ p', tyAt τq p' = some τp ∧ sibR p' = some r
  | [], p, r, τ, τp, l, cs, τq, lq, cq, ht, h, hn => by
      obtain ⟨rfl, _, _⟩ := Nav.nil_iff.1 hn
      have h' : sibR p = some r := by cases p <;> exact h
      exact ⟨p, ht, h'⟩
  | s :: q, p, r, τ, τp, l, cs, τq, lq, cq, ht, h, hn => by
      cases p with
      | nil => cases s <;> cases h
      | cons s' p =>
        cases τ <;> cases s <;> simp only [Nav] at hn <;> cases s' <;> first | (cases h; done) | skip
        case osl.idx.idx => obtain ⟨_, _, _, _, _, _, _, _, _, hn⟩ := hn; exact sibP_nav (q := q) (p := p) ht h hn
        case optr.deref.deref => obtain ⟨_, _, _, _, _, _, hn⟩ := hn; exact sibP_nav (q := q) (p := p) ht h hn
        case st.unst.unst => exact sibP_nav (q := q) (p := p) ht h hn
        case pr.fst.fst => exact sibP_nav (q := q) (p := p) ht h hn
        case pr.snd.snd => exact sibP_nav (q := q) (p := p) ht h hn
theorem Nav.split {w : World} : ∀ {q r : List Step} {τ τ2 : Ty} {l l2 : Loc} {cs c2 : List Value}, Nav w τ l cs (q ++ r) τ2 l2 c2 → ∃ τ1 l1 c1, Nav w τ l cs q τ1 l1 c1 ∧ Nav w τ1 l1 c1 r τ2 l2 c2
  | [], r, τ, τ2, l, l2, cs, c2, h => ⟨τ, l, cs, Nav.here, h⟩
  | s :: q, r, τ, τ2, l, l2, cs, c2, h => by
      rw [List.cons_append] at h
      cases τ <;> cases s <;> simp only [Nav] at h
      case osl.idx =>
        obtain ⟨b, o, len, cap, ds, e1, e2, e3, e4, h⟩ := h
        obtain ⟨τ1, l1, c1, h1, h2⟩ := Nav.split (q := q) h
        exact ⟨τ1, l1, c1, ⟨b, o, len, cap, ds, e1, e2, e3, e4, h1⟩, h2⟩
      case optr.deref =>
        obtain ⟨b, o, ds, e1, e2, e3, h⟩ := h
        obtain ⟨τ1, l1, c1, h1, h2⟩ := Nav.split (q := q) h
        exact ⟨τ1, l1, c1, ⟨b, o, ds, e1, e2, e3, h1⟩, h2⟩
      case st.unst => exact Nav.split (q := q) h
      case pr.fst => exact Nav.split (q := q) h
      case pr.snd => exact Nav.split (q := q) h
theorem Nav.upper {w w' : World} {τ τp : Ty} {cs : List Value} {p q r : List Step} (ht : tyAt τ p = some τp) (hs : sibP p q = some r) {τq : Ty} {b o : Nat} {cq : List Value} (hn : Nav w τ none cs q τq (some (b, o)) cq)
    (hk : ∀ (q : List Step) (τq : Ty) (lq : Loc) (cq : List Value), keepP p q = true → Nav w τ none cs q τq lq cq → Nav w' τ none cs q τq lq cq) : ∃ cq', Nav w' τ none cs q τq (some (b, o)) cq' := by
  obtain ⟨p', h1, h2⟩ := sibP_nav ht hs hn
  obtain ⟨τ2, k, hk2⟩ := sibR_nav h1 h2
  obtain ⟨c2, h3⟩ := hk2 w (some (b, o)) cq
  obtain ⟨τ1, l1, c1, h4, h5⟩ := Nav.split (hk _ _ _ _ (sibP_keep hs) (hn.append h3))
  have e1 := h4.ty
  rw [hn.ty] at e1
  obtain rfl := Option.some.inj e1
  obtain ⟨c3, h6⟩ := hk2 w' l1 c1
  obtain ⟨_, e2, _⟩ := h5.det h6
  cases l1 with
  | none => cases e2
  | some x =>
    obtain ⟨b', o'⟩ := x
    simp only [Option.map_some, Option.some.injEq, Prod.mk.injEq] at e2
    obtain ⟨e3, e4⟩ := e2
    obtain rfl : b = b' := e3
    obtain rfl : o = o' := by omega
    exact ⟨c1, h4⟩
def isRoot (keep : List (Nat × List Step)) : AV → Bool
  | .ref id [] => keep.any fun e => Nat.beq e.1 id
  | .ref id q => keep.any fun e => Nat.beq e.1 id && keepP e.2 q
  | .addr id q => keep.any fun e => Nat.beq e.1 id && keepA e.2 q
  | .view id q _ _ => keep.any fun e => Nat.beq e.1 id && keepP e.2 q
  | _ => false
def isRoot' (S : List Nat) (keep : List (Nat × List Step)) : AV → Bool
  | .clo _ l => l.all fun a => !(a.uses S) || isRoot keep a
  | a => isRoot keep a
def kill1b (S : List Nat) (keep : List (Nat × List Step)) (a : AV) : AV := bif a.uses S && !(isRoot' S keep a) then .dead else a
def kill1 (S : List Nat) (keep : List (Nat × List Step)) : AV → AV
  | .tup l => .tup (l.map (kill1b S keep))
  | a => kill1b S keep a
def kill (S : List Nat) (keep : List (Nat × List Step)) (g : List (Nat × AV)) : List (Nat × AV) := g.map fun q => (q.1, kill1 S keep q.2)
def del (S : List Nat) (h : List (Nat × Tree)) : List (Nat × Tree) := h.filter fun q => !(memN q.1 S)
theorem keepP_nil (q : List Step) : keepP [] q = false := by cases q <;> simp [keepP, hasMem]
def kp0 (l : List Nat) : List (Nat × List Step) := l.map fun i => (i, [])
theorem gt_kill (S : List Nat) (keep : List (Nat × List Step)) : ∀ (g : List (Nat × AV)) (k : Nat), gt (kill S keep g) k = kill1 S keep (gt g k)
  | [], k => by simp [kill, gt, lk, kill1, kill1b, AV.uses, AV.ids]
  | (k0, a) :: g, k => by
      show gt ((k0, kill1 S keep a) :: kill S keep g) k = _
      rw [gt_cons, gt_cons]
      split
      · rfl
      · exact gt_kill S keep g k
theorem lk_del (S : List Nat) : ∀ (h : List (Nat × Tree)) (k : Nat), lk (del S h) k = if k ∈ S then none else lk h k
  | [], k => by simp [del, lk]
  | (k0, t) :: h, k => by
      have ih := lk_del S h k
      simp only [del] at ih ⊢
      rw [List.filter_cons]
      cases hm : memN k0 S with
      | true =>
        have : k0 ∈ S := memN_iff.1 hm
        simp only [Bool.not_true, Bool.false_eq_true, if_false]
        rw [ih, lk_cons]
        by_cases e : k0 = k
        · subst e; rw [if_pos this, if_pos this]
        · rw [if_neg e]
      | false =>
        have : k0 ∉ S := fun h => by rw [memN_iff.2 h] at hm; cases hm
        simp only [Bool.not_false, if_true]
        rw [lk_cons, lk_cons, ih]
        by_cases e : k0 = k
        · subst e; rw [if_pos rfl, if_pos rfl, if_neg this]
        · rw [if_neg e, if_neg e]
theorem uses_false {S : List Nat} {a : AV} (h : a.uses S = false) : ∀ id ∈ a.ids, id ∉ S := fun id hid hS => by
  have : a.uses S = true := by
    simp only [AV.uses, List.any_eq_true]
    exact ⟨id, hid, memN_iff.2 hS⟩
  rw [h] at this; cases this
structure UpdOk (C : Ctx) (st : St) (w w' : World) (I I' : Nat → Prop) (rt : Nat → List Value) (fp : Nat → List Nat) (S : List Nat) (keep : List (Nat × List Step)) (new : List (Nat × Tree)) (rtn : Nat → List Value) (fpn : Nat → List Nat) : Prop where
  size : w.heap.size ≤ w'.heap.size
  os : w'.os = w.os
  tape : w'.tape = w.tape
  output : w'.output = w.output
  heap : ∀ b, b < w.heap.size → (∀ id ∈ S, ∀ t, lk st.h id = some t → b ∉ fp id) → w'.heap[b]? = w.heap[b]?
  i : ∀ b, I b → I' b
  i2 : ∀ b, I' b → I b ∨ (b < w'.heap.size ∧ (w.heap.size ≤ b ∨ ∃ id ∈ S, ∃ t, lk st.h id = some t ∧ b ∈ fp id))
  tree : ∀ id t, lk new id = some t → (id ∈ S ∨ lk st.h id = none) ∧ Rep (md I' C.B) w' t.1 (rtn id) t.2 (fpn id) ∧ (fpn id).Nodup ∧
    ∀ b ∈ fpn id, ¬ I' b ∧ b < w'.heap.size ∧ (w.heap.size ≤ b ∨ ∃ id' ∈ S, ∃ t', lk st.h id' = some t' ∧ b ∈ fp id')
  dis : ∀ i j t u, lk new i = some t → lk new j = some u → i ≠ j → ∀ b ∈ fpn i, b ∉ fpn j
  keep : ∀ e ∈ keep, ∀ t, lk st.h e.1 = some t → ∃ t', lk new e.1 = some t' ∧ t'.1 = t.1 ∧ rtn e.1 = rt e.1 ∧ (∃ τp, tyAt t.1 e.2 = some τp) ∧
    ∀ (q : List Step) (τq : Ty) (lq : Loc) (cq : List Value), keepP e.2 q = true → Nav w t.1 none (rt e.1) q τq lq cq → Nav w' t.1 none (rt e.1) q τq lq cq
theorem RelAt.upd {C : Ctx} {st : St} {tm : Array Value} {w w' : World} {I I' : Nat → Prop} {rt rtn : Nat → List Value} {fp fpn : Nat → List Nat} {S : List Nat} {keep : List (Nat × List Step)} {new : List (Nat × Tree)} (h : RelAt C st tm w I rt fp)
    (u : UpdOk C st w w' I I' rt fp S keep new rtn fpn) : RelAt C ⟨kill S keep st.g, new ++ del S st.h⟩ tm w' I' (mixv new rtn rt) (mixv new fpn fp) := by
  have hM : ∀ m b, md I C.B m b → md I' C.B m b ∧ Sm w w' b := fun m b hb => by
    refine ⟨?_, .of_heap (u.heap b (h.ib b (md_or hb)) (fun id _ t ht hf => h.notM ht b hf m hb))⟩
    cases m
    · exact u.i b hb
    · exact hb.imp (u.i b) id
  have hcase : ∀ id t, lk (new ++ del S st.h) id = some t → (lk new id = some t ∧ mixv new rtn rt id = rtn id ∧ mixv new fpn fp id = fpn id) ∨
      (lk new id = none ∧ id ∉ S ∧ lk st.h id = some t ∧ mixv new rtn rt id = rt id ∧ mixv new fpn fp id = fp id) := fun id t ht => by
    rw [lk_append, lk_del] at ht
    cases hh : lk new id with
    | none =>
      rw [hh] at ht
      simp only [Option.none_or] at ht
      split at ht
      · cases ht
      · rename_i hS; exact .inr ⟨rfl, hS, ht, by simp [mixv, hh], by simp [mixv, hh]⟩
    | some u => rw [hh] at ht; exact .inl ⟨by simpa using ht, by simp [mixv, hh], by simp [mixv, hh]⟩
  have hbs : ∀ id t, lk st.h id = some t → id ∉ S → ∀ b ∈ fp id, Sm w w' b := fun id t ht hS b hb => .of_heap (u.heap b ((h.tree id t ht).2.2 b hb).2.2.1 (fun id' hS' t' ht' hb' =>
    h.dis id id' t t' ht ht' (fun e => hS (by rw [e]; exact hS')) b hb hb'))
  have hI' : ∀ id t, lk st.h id = some t → id ∉ S → ∀ b ∈ fp id, ¬ I' b := fun id t ht hS b hb hi => by
    have q := (h.tree id t ht).2.2 b hb
    rcases u.i2 b hi with hi | ⟨_, hi | ⟨id', hS', t', ht', hb'⟩⟩
    · exact q.1 hi
    · omega
    · exact h.dis id id' t t' ht ht' (fun e => hS (by rw [e]; exact hS')) b hb hb'
  refine { n := h.n, i0 := fun b hb => u.i b (h.i0 b hb), i1 := ?_, ib := ?_, tree := ?_, dis := ?_, tmp := ?_, frame := ?_, size := Nat.le_trans h.size u.size, os := u.os.trans h.os, tape := u.tape.trans h.tape, output := u.output.trans h.output, pin := h.pin }
  · intro b hb
    rcases u.i2 b hb with hb | ⟨_, hb | ⟨id', hS', t', ht', hb'⟩⟩
    · exact h.i1 b hb
    · exact .inr (.inl (Nat.le_trans h.size hb))
    · exact .inr ((h.tree id' t' ht').2.2 b hb').2.2.2
  · intro b hb
    rcases hb with hb | hb
    · rcases u.i2 b hb with hb | ⟨hb, _⟩
      · exact Nat.lt_of_lt_of_le (h.ib b (.inl hb)) u.size
      · exact hb
    · exact Nat.lt_of_lt_of_le (h.ib b (.inr hb)) u.size
  · intro id t ht
    rcases hcase id t ht with ⟨h1, h2, h3⟩ | ⟨h0, hS, h1, h2, h3⟩
    · obtain ⟨_, q1, q2, q3⟩ := u.tree id t h1
      rw [h2, h3]
      refine ⟨q1, q2, fun b hb => ?_⟩
      obtain ⟨r1, r2, r3⟩ := q3 b hb
      rcases r3 with r3 | ⟨id', hS', t', ht', hb'⟩
      · exact ⟨r1, fun hB => by have := h.ib b (.inr hB); omega, r2, .inl (Nat.le_trans h.size r3)⟩
      · have q := (h.tree id' t' ht').2.2 b hb'
        exact ⟨r1, q.2.1, r2, q.2.2.2⟩
    · obtain ⟨q1, q2, q3⟩ := h.tree id t h1
      rw [h2, h3]
      refine ⟨q1.mono hM (hbs id t h1 hS), q2, fun b hb => ?_⟩
      obtain ⟨r1, r2, r3, r4⟩ := q3 b hb
      exact ⟨hI' id t h1 hS b hb, r2, Nat.lt_of_lt_of_le r3 u.size, r4⟩
  · intro i j t v hi hj hij b hb
    rcases hcase i t hi with ⟨h1, _, h3⟩ | ⟨h0, hS, h1, _, h3⟩ <;> rcases hcase j v hj with ⟨k1, _, k3⟩ | ⟨k0, kS, k1, _, k3⟩ <;> rw [h3] at hb <;> rw [k3]
    · exact u.dis i j t v h1 k1 hij b hb
    · intro hb'
      rcases ((u.tree i t h1).2.2.2 b hb).2.2 with q | ⟨id', hS', t', ht', hb2⟩
      · have := ((h.tree j v k1).2.2 b hb').2.2.1
        omega
      · exact h.dis j id' v t' k1 ht' (fun e => kS (by rw [e]; exact hS')) b hb' hb2
    · intro hb'
      rcases ((u.tree j v k1).2.2.2 b hb').2.2 with q | ⟨id', hS', t', ht', hb2⟩
      · have := ((h.tree i t h1).2.2 b hb).2.2.1
        omega
      · exact h.dis i id' t t' h1 ht' (fun e => hS (by rw [e]; exact hS')) b hb hb2
    · exact h.dis i j t v h1 k1 hij b hb
  · intro k
    show AVok _ _ _ _ _ (gt (kill S keep st.g) k) _
    rw [gt_kill]
    have hk := h.tmp k
    generalize gt st.g k = av at hk
    generalize tm.getD k undef = val at hk
    suffices comp : ∀ (av : AV) (val : Value), AVok (md I C.B) w st.h rt fp av val → AVok (md I' C.B) w' (new ++ del S st.h) (mixv new rtn rt) (mixv new fpn fp) (kill1b S keep av) val by
      cases av with
      | tup l =>
        cases hk with | tup hl hh =>
        refine .tup (by simp [hl]) (fun i a v h1 h2 => ?_)
        rw [List.getElem?_map] at h1
        obtain ⟨a0, h3, rfl⟩ := Option.map_eq_some_iff.1 h1
        exact comp a0 v (hh i a0 v h3 h2)
      | _ => exact comp _ _ hk
    clear hk
    have comp0 : ∀ (av : AV) (val : Value), AVok (md I C.B) w st.h rt fp av val → av.uses S = false ∨ isRoot keep av = true → AVok (md I' C.B) w' (new ++ del S st.h) (mixv new rtn rt) (mixv new fpn fp) av val := by
     intro av val hk hor
     cases hu : av.uses S with
     | false =>
       refine hk.monoOn hM (fun id hid t ht => ?_)
       have hS := uses_false hu id hid
       have hnn : lk new id = none := by
         cases hh : lk new id with
         | none => rfl
         | some x =>
           rcases (u.tree id x hh).1 with q | q
           · exact absurd q hS
           · rw [ht] at q; cases q
       refine ⟨by rw [lk_append, hnn, lk_del, if_neg hS]; simpa using ht, by simp [mixv, hnn], by simp [mixv, hnn], (h.tree id t ht).1, hbs id t ht hS⟩
     | true =>
         have hr : isRoot keep av = true := hor.resolve_left (by rw [hu]; exact fun h => by cases h)
         have one : ∀ (id : Nat) (t : Tree), lk st.h id = some t → ∀ e ∈ keep, e.1 = id → ∃ t', lk (new ++ del S st.h) id = some t' ∧ t'.1 = t.1 ∧ mixv new rtn rt id = rt id ∧ (∃ τp, tyAt t.1 e.2 = some τp) ∧
             ∀ (q : List Step) (τq : Ty) (lq : Loc) (cq : List Value), keepP e.2 q = true → Nav w t.1 none (rt id) q τq lq cq → Nav w' t.1 none (rt id) q τq lq cq := by
           intro id t ht e he hid
           subst hid
           obtain ⟨t', q1, q2, q3, qt, q4⟩ := u.keep e he _ ht
           exact ⟨t', by rw [lk_append, q1]; rfl, q2, by simp [mixv, q1, q3], qt, q4⟩
         have get : ∀ (id : Nat) (q : List Step), (keep.any fun e => Nat.beq e.1 id && keepP e.2 q) = true → ∃ e ∈ keep, e.1 = id ∧ keepP e.2 q = true := by
           intro id q hh
           obtain ⟨e, he, h2⟩ := List.any_eq_true.1 hh
           simp only [Bool.and_eq_true] at h2
           exact ⟨e, he, Nat.eq_of_beq_eq_true h2.1, h2.2⟩
         cases av with
         | ref id p =>
           cases p with
           | nil =>
             obtain ⟨e, he, h2⟩ := List.any_eq_true.1 (show (keep.any fun e => Nat.beq e.1 id) = true from hr)
             have h2 := Nat.eq_of_beq_eq_true h2
             cases hk with | ref ht hn =>
             obtain ⟨rfl, rfl, rfl⟩ := Nav.nil_iff.1 hn
             obtain ⟨t', q1, q2, q3, _⟩ := one id _ ht e he h2
             rw [← q2]
             refine .ref (loc := none) q1 ?_
             rw [q3]
             exact Nav.here
           | cons s p =>
             obtain ⟨e, he, h2, h3⟩ := get id (s :: p) hr
             cases hk with | ref ht hn =>
             obtain ⟨t', q1, q2, q3, qt, q4⟩ := one id _ ht e he h2
             have hn' := q4 _ _ _ _ h3 hn
             rw [← q3, ← q2] at hn'
             exact .ref q1 hn'
         | addr id p =>
           obtain ⟨e, he, h2⟩ := List.any_eq_true.1 (show (keep.any fun e => Nat.beq e.1 id && keepA e.2 p) = true from hr)
           simp only [Bool.and_eq_true] at h2
           obtain ⟨h2, h3⟩ := h2
           have h2 := Nat.eq_of_beq_eq_true h2
           cases hk with | addr ht hn =>
           obtain ⟨t', q1, q2, q3, qt, q4⟩ := one id _ ht e he h2
           rcases Bool.or_eq_true_iff.1 h3 with h3 | h3
           · have hn' := q4 _ _ _ _ h3 hn
             rw [← q3, ← q2] at hn'
             exact .addr q1 hn'
           · obtain ⟨r, hr'⟩ := Option.isSome_iff_exists.1 h3
             obtain ⟨_, qt⟩ := qt
             obtain ⟨cq, hn'⟩ := Nav.upper qt hr' hn q4
             rw [← q3, ← q2] at hn'
             exact .addr q1 hn'
         | view id p lo hi =>
           obtain ⟨e, he, h2, h3⟩ := get id p hr
           cases hk with | viewE => (exact .viewE _ _) | view ht hn l1 l2 l3 =>
           obtain ⟨t', q1, q2, q3, qt, q4⟩ := one id _ ht e he h2
           have hn' := q4 _ _ _ _ h3 hn
           rw [← q3, ← q2] at hn'
           exact .view q1 hn' l1 l2 l3
         | _ => cases hr
    intro av val hk
    unfold kill1b
    cases hu : av.uses S with
    | false => simp only [Bool.false_and, cond_false]; exact comp0 av val hk (.inl hu)
    | true =>
      cases hr : isRoot' S keep av with
      | false => simp only [Bool.not_false, Bool.and_self, cond_true]; exact .dead _
      | true =>
        simp only [Bool.not_true, Bool.and_false, cond_false]
        cases av with
        | clo f l =>
          cases hk with | clo hl hh =>
          refine .clo hl (fun i a v h1 h2 => comp0 a v (hh i a v h1 h2) ?_)
          have := List.all_eq_true.1 hr a (List.mem_of_getElem? h1)
          simpa using this
        | _ => exact comp0 _ val hk (.inr hr)
  · intro b hb hF
    rw [u.heap b (Nat.lt_of_lt_of_le hb h.size)]
    · exact h.frame b hb hF
    · intro id _ t ht hb'
      have := ((h.tree id t ht).2.2 b hb').2.2.2
      rcases this with q | q
      · omega
      · exact hF q
end Go.Fw
end

section
namespace Go.Fw
def Elems (M : Md → Nat → Prop) (w : World) (t : Ty) (ad : Option Addr) (ys : List t.den) (fys : List (List Nat)) : Prop :=
  fys.length = ys.length ∧ (ys = [] ∨ ∃ b o, ad = some ⟨b, o, none⟩ ∧ ∀ (i : Nat) (y : t.den) (f : List Nat), ys[i]? = some y → fys[i]? = some f → ∃ ds, ds.length = t.size ∧ At w b (o + i * t.size) ds ∧ Rep M w t ds y f)
theorem Elems.slc {M : Md → Nat → Prop} {w : World} {m : Md} {t : Ty} {ad : Option Addr} {ys : List t.den} {n cap : Nat} (h : Rep M w (.slc m t) [.slice ad n cap] ys []) : n = ys.length ∧ Elems M w t ad ys (List.replicate ys.length []) := by
  obtain ⟨_, a, c, e, _, _, h⟩ := h
  simp only [List.cons.injEq, Value.slice.injEq, and_true] at e
  obtain ⟨rfl, rfl, rfl⟩ := e
  refine ⟨rfl, by simp, h.imp id ?_⟩
  rintro ⟨b, o, ha, _, hx⟩
  refine ⟨b, o, ha, fun i y f hy hf => ?_⟩
  have : i < ys.length := (List.getElem?_eq_some_iff.1 hy).1
  rw [List.getElem?_replicate, if_pos this] at hf
  obtain rfl := Option.some.inj hf
  exact hx i y hy
theorem Elems.osl {M : Md → Nat → Prop} {w : World} {t : Ty} {ad : Option Addr} {ys : List t.den} {n cap : Nat} {f : List Nat} (h : Rep M w (.osl t) [.slice ad n cap] ys f) :
    n = ys.length ∧ n ≤ cap ∧ ∃ fys, Elems M w t ad ys fys ∧ (∀ c ∈ fys.flatten, c ∈ f) ∧ (f.Nodup → fys.flatten.Nodup) ∧
      ((ad = none ∧ cap = 0 ∧ f = []) ∨ ∃ b o, ad = some ⟨b, o, none⟩ ∧ f = b :: fys.flatten ∧ Fr w b o (o + cap * t.size)) := by
  obtain ⟨a, c, e, h⟩ := h
  simp only [List.cons.injEq, Value.slice.injEq, and_true] at e
  obtain ⟨rfl, rfl, rfl⟩ := e
  rcases h with ⟨rfl, rfl, rfl, rfl⟩ | ⟨b, o, fps, rfl, rfl, q1, q2, q3, q4⟩
  · exact ⟨rfl, Nat.le_refl _, [], ⟨rfl, .inl rfl⟩, by simp, by simp, .inl ⟨rfl, rfl, rfl⟩⟩
  · refine ⟨rfl, q2, fps, ⟨q1, .inr ⟨b, o, rfl, q4⟩⟩, fun c hc => List.mem_cons_of_mem _ hc, fun h => (List.nodup_cons.1 h).2, .inr ⟨b, o, rfl, rfl, q3⟩⟩
theorem Elems.cells {M : Md → Nat → Prop} {w : World} {t : Ty} {ad : Option Addr} {ys : List t.den} {fys : List (List Nat)} (h : Elems M w t ad ys fys) (hp : 0 < t.size) :
    ∃ news : List Value, news.length = ys.length * t.size ∧ (∀ v ∈ news, v.oneCell' = true) ∧ (∀ b, ad = some b → ys ≠ [] → ∀ (j : Nat) v, news[j]? = some v → w.cell? (b.add j) = some v) ∧
      ∀ (i : Nat) (y : t.den) (f : List Nat), ys[i]? = some y → fys[i]? = some f → Rep M w t ((news.drop (i * t.size)).take t.size) y f := by
  obtain ⟨hl, h⟩ := h
  rcases h with rfl | ⟨b, o, rfl, h⟩
  · exact ⟨[], by simp, by simp, fun _ _ h => absurd rfl h, by simp⟩
  · have hcell : ∀ k, k < ys.length * t.size → ∃ v, w.cell? ⟨b, o + k, none⟩ = some v ∧ v.oneCell' = true := by
      intro k hk
      have hi : k / t.size < ys.length := (Nat.div_lt_iff_lt_mul hp).2 hk
      obtain ⟨ds, d1, d2, d3⟩ := h (k / t.size) ys[k / t.size] (fys[k / t.size]'(by omega)) (by simp) (by simp)
      have hm := Nat.mod_lt k hp
      have : ds[k % t.size]? = some (ds[k % t.size]'(by omega)) := List.getElem?_eq_getElem _
      refine ⟨_, ?_, d3.one _ (List.getElem_mem (by omega : k % t.size < ds.length))⟩
      have := d2 _ _ this
      rwa [show o + k / t.size * t.size + k % t.size = o + k by have := Nat.div_add_mod k t.size; rw [Nat.mul_comm] at this; omega] at this
    have hget : ∀ k, ((List.range (ys.length * t.size)).map fun k => (w.cell? ⟨b, o + k, none⟩).getD undef)[k]? = if k < ys.length * t.size then w.cell? ⟨b, o + k, none⟩ else none := by
      intro k
      rw [List.getElem?_map]
      by_cases hk : k < ys.length * t.size
      · rw [if_pos hk, List.getElem?_range hk]
        obtain ⟨v, hv, _⟩ := hcell k hk
        simp [hv]
      · rw [if_neg hk, List.getElem?_eq_none (by simp; omega)]; rfl
    refine ⟨(List.range (ys.length * t.size)).map fun k => (w.cell? ⟨b, o + k, none⟩).getD undef, by simp, ?_, ?_, ?_⟩
    · intro v hv
      obtain ⟨k, hk, rfl⟩ := List.mem_map.1 hv
      obtain ⟨u, hu, h1⟩ := hcell k (List.mem_range.1 hk)
      simpa [hu] using h1
    · intro b' hb' _ j v hj
      cases hb'
      rw [hget] at hj
      split at hj
      · rw [Addr.add_lit]; exact hj
      · cases hj
    · intro i y f hy hf
      obtain ⟨ds, d1, d2, d3⟩ := h i y f hy hf
      have hi : i < ys.length := (List.getElem?_eq_some_iff.1 hy).1
      have : (((List.range (ys.length * t.size)).map fun k => (w.cell? ⟨b, o + k, none⟩).getD undef).drop (i * t.size)).take t.size = ds := by
        apply List.ext_getElem?
        intro j
        rcases Nat.lt_or_ge j t.size with hj | hj
        · rw [List.getElem?_take_of_lt hj, List.getElem?_drop, hget]
          have h1 : (i + 1) * t.size ≤ ys.length * t.size := Nat.mul_le_mul_right _ hi
          rw [Nat.add_mul, Nat.one_mul] at h1
          rw [if_pos (by omega)]
          have : ds[j]? = some (ds[j]'(by omega)) := List.getElem?_eq_getElem _
          rw [this, ← Nat.add_assoc]
          exact d2 _ _ this
        · rw [List.getElem?_eq_none (by simp; omega), List.getElem?_eq_none (by omega)]
      rw [this]
      exact d3
section
variable {P : Program}
theorem append_run {w : World} {T ty S : TypeId} {t : Ty} {i : TypeInfo} (hT : P.underlying T = some (.slice S)) (hS : TyF P t S) (hi : P.info? S = some i) (hsz : t.size ≤ 1300) {ad yd : Option Addr} {n cap m c : Nat} {olds news : List Value}
    (ho : olds.length = n * t.size) (hoc : ∀ b, ad = some b → ∀ (j : Nat) (v : Value), olds[j]? = some v → w.cell? (b.add j) = some v) (hspot : ∀ b, ad = some b → b.spot = none) (hcap : n ≤ cap) (hnil : ad = none → cap = 0)
    (hn : news.length = m * t.size) (h1 : ∀ v ∈ news, v.oneCell' = true) (hnc : ∀ b, yd = some b → 0 < m → ∀ (j : Nat) (v : Value), news[j]? = some v → w.cell? (b.add j) = some v) (hyn : yd = none → m = 0)
    (hfr : ∀ b, ad = some b → Fr w b.block b.off (b.off + cap * t.size)) (hlim : n + m ≤ lim) :
    ∃ v' w', (Builtin.append_ #[T, T] ty #[.slice ad n cap, .slice yd m c]).run P w = .ok v' w' ∧
      ((n + m ≤ cap ∧ v' = .slice ad (n + m) cap ∧ ((ad = none ∧ w' = w) ∨ ∃ b, ad = some b ∧ w' = w.setCells b.block (b.off + n * t.size) news)) ∨
        ∃ (cap' : Nat) (cells : Array Value), cap < n + m ∧ n + m ≤ cap' ∧ v' = .slice (some ⟨w.heap.size, 0, none⟩) (n + m) cap' ∧ Grew w w' ∧ w'.heap[w.heap.size]? = some (.cells cells S (0, 0)) ∧ w'.heap.size = w.heap.size + 1 ∧ cap' * t.size ≤ cells.size ∧
          ∀ (j : Nat) (v : Value), (olds ++ news)[j]? = some v → cells[j]? = some v) := by
  obtain ⟨i', _, q5, _⟩ := hS.info
  have e0 := q5.info
  rw [hi] at e0; cases e0
  have hpos := hS.pos
  by_cases hroom : n + m ≤ cap
  · by_cases hm : m = 0
    · subst hm
      obtain rfl : news = [] := List.eq_nil_of_length_eq_zero (by simpa using hn)
      have hfc : (Builtin.firstCells t.size 0 (.slice yd 0 c)).run P w = .ok #[] w := by
        cases yd with
        | none => rfl
        | some b => simp [Builtin.firstCells, loadCells, loadCellsFrom]
      refine ⟨.slice ad n cap, w, ?_, .inl ⟨hroom, rfl, ?_⟩⟩
      · cases ad with
        | none => simp [Builtin.append_, run_underlying hT, sizeOf, typeInfo, hi, Builtin.lenOf, q5.size, hcap, hfc]
        | some b => simp [Builtin.append_, run_underlying hT, sizeOf, typeInfo, hi, Builtin.lenOf, q5.size, hcap, hfc, storeCells]
      · cases ad with
        | none => exact .inl ⟨rfl, rfl⟩
        | some b => exact .inr ⟨b, rfl, rfl⟩
    · cases ad with
      | none => have := hnil rfl; omega
      | some b =>
        cases yd with
        | none => exact absurd (hyn rfl) hm
        | some y =>
          obtain ⟨bb, bo, bs⟩ := b
          obtain rfl : bs = none := hspot _ rfl
          have hmul : (n + m) * t.size ≤ cap * t.size := Nat.mul_le_mul_right _ hroom
          rw [Nat.add_mul] at hmul
          have hr := run_append_room_cells (P := P) w T ty S i hT hi bb bo n cap y m c news (by rw [q5.size]; exact hn) (hnc y rfl (by omega)) h1 hroom
            (fun j hj => (hfr _ rfl _ (by rw [q5.size]; simp only; omega) (by rw [q5.size]; simp only; omega)).1)
            (fun j hj => (hfr _ rfl _ (by rw [q5.size]; simp only; omega) (by rw [q5.size]; simp only; omega)).2)
          rw [q5.size] at hr
          exact ⟨_, _, hr, .inl ⟨hroom, rfl, .inr ⟨_, rfl, rfl⟩⟩⟩
  · obtain ⟨zv, hzs, hz⟩ := hS.hasZero
    have hz := hz i hi
    have hm : 0 < m := by omega
    cases yd with
    | none => have := hyn rfl; omega
    | some y =>
      have hbytes : (n + m) * i.bytes ≤ 140737488355328 := by
        have h1 : (n + m) * i.bytes ≤ lim * 31200 := Nat.mul_le_mul hlim (by have := q5.bytes; omega)
        unfold lim at h1; omega
      have hml : ((n + m : Nat) : Int) ≤ 9223372036854775807 := by unfold lim at hlim; omega
      have fin : ∀ (old : Nat), let cap' := grownCap w (n + m) old S
          n + m ≤ cap' ∧ Grew w (w.drew.alloc (.cells (olds.toArray ++ news.toArray ++ Builtin.zeroCells zv.cells (cap' - (n + m))) S)) ∧
          (w.drew.alloc (.cells (olds.toArray ++ news.toArray ++ Builtin.zeroCells zv.cells (cap' - (n + m))) S)).heap[w.heap.size]? = some (.cells (olds.toArray ++ news.toArray ++ Builtin.zeroCells zv.cells (cap' - (n + m))) S (0, 0)) ∧
          cap' * t.size ≤ (olds.toArray ++ news.toArray ++ Builtin.zeroCells zv.cells (cap' - (n + m))).size ∧
          ∀ (j : Nat) (v : Value), (olds ++ news)[j]? = some v → (olds.toArray ++ news.toArray ++ Builtin.zeroCells zv.cells (cap' - (n + m)))[j]? = some v := by
        intro old cap'
        have hge : n + m ≤ cap' := grownCap_ge w (n + m) old S
        refine ⟨hge, (Grew.refl w).drew.trans (Grew.alloc _ _), heap_alloc_new w.drew _, ?_, ?_⟩
        · simp only [Array.size_append, List.size_toArray, size_zeroCells, hzs, ho, hn, ← Nat.add_mul]
          refine Nat.mul_le_mul_right _ ?_
          omega
        · intro j v hj
          have hj' : j < (olds ++ news).length := (List.getElem?_eq_some_iff.1 hj).1
          rw [Array.getElem?_append, if_pos (by simpa using hj')]
          simpa using hj
      cases ad with
      | some b =>
        have hr := run_append_grow (P := P) w T ty S i zv hT hi hz b n cap olds (by rw [q5.size]; exact ho) (hoc b rfl) y m c news (by rw [q5.size]; exact hn) (hnc y rfl hm) (by omega) hml (growslice_fits (by omega) hbytes)
        obtain ⟨f1, f2, f3, f4, f5⟩ := fin cap
        exact ⟨_, _, hr, .inr ⟨_, _, by omega, f1, rfl, f2, f3, by simp, f4, f5⟩⟩
      | none =>
        have hc0 := hnil rfl
        have hn0 : n = 0 := by omega
        subst hc0; subst hn0
        obtain rfl : olds = [] := List.eq_nil_of_length_eq_zero (by simpa using ho)
        simp only [Nat.zero_add] at hml hbytes fin
        have hr := run_append_nil (P := P) w T ty S i zv hT hi hz y m c news (by rw [q5.size]; exact hn) (hnc y rfl hm) hm hml (by omega)
        obtain ⟨f1, f2, f3, f4, f5⟩ := fin 0
        simp only [List.nil_append, Array.empty_append] at f1 f2 f3 f4 f5
        refine ⟨_, _, hr, .inr ⟨_, _, by omega, by rw [Nat.zero_add]; exact f1, by rw [Nat.zero_add], f2, f3, by simp, f4, f5⟩⟩
end
end Go.Fw
end

section
namespace Go.Fw
theorem setCells_ne (b : Nat) : ∀ (vs : List Value) (o : Nat) (w : World) (k : Nat), k ≠ b → (w.setCells b o vs).heap[k]? = w.heap[k]?
  | [], _, _, _, _ => rfl
  | v :: r, o, w, k, hk => by
    rw [World.setCells, setCells_ne b r _ _ k hk]
    simp only [World.setCell, Array.getElem?_modify]
    rw [if_neg (fun e => hk e.symm)]
theorem setCells_size (b : Nat) : ∀ (vs : List Value) (o : Nat) (w : World), (w.setCells b o vs).heap.size = w.heap.size
  | [], _, _ => rfl
  | v :: r, o, w => by rw [World.setCells, setCells_size b r]; simp
theorem setCells_rest (b : Nat) : ∀ (vs : List Value) (o : Nat) (w : World), (w.setCells b o vs).os = w.os ∧ (w.setCells b o vs).tape = w.tape ∧ (w.setCells b o vs).output = w.output
  | [], _, _ => ⟨rfl, rfl, rfl⟩
  | v :: r, o, w => by rw [World.setCells]; exact setCells_rest b r _ _
theorem setCells_some (b : Nat) (vs : List Value) (o : Nat) (w : World) (h : ∀ j, j < vs.length → (w.cell? ⟨b, o + j, none⟩).isSome = true) (c : Nat) : ((w.setCells b o vs).cell? ⟨b, c, none⟩).isSome = (w.cell? ⟨b, c, none⟩).isSome := by
  by_cases hc : o ≤ c ∧ c < o + vs.length
  · obtain ⟨j, rfl⟩ : ∃ j, c = o + j := ⟨c - o, by omega⟩
    rw [World.cell?_setCells_in b vs o w h j (by omega), h j (by omega)]; rfl
  · rw [World.cell?_setCells_out b vs o w _ (fun _ _ => by simp only; omega)]
theorem setCells_sm {b : Nat} {vs : List Value} {o : Nat} {w : World} {k : Nat} (hk : k ≠ b) : Sm w (w.setCells b o vs) k := .of_heap (setCells_ne b vs o w k hk)
theorem append_core {P : Program} {M : Md → Nat → Prop} {w : World} {T ty S : TypeId} {t : Ty} {i : TypeInfo} (hT : P.underlying T = some (.slice S)) (hS : TyF P t S) (hi : P.info? S = some i) (hsz : t.size ≤ 1300)
    {ad yd : Option Addr} {n cap c : Nat} {xs ys : List t.den} {f1 : List Nat} {fys : List (List Nat)} (hx : Rep M w (.osl t) [.slice ad n cap] xs f1) (hy : Elems M w t yd ys fys)
    (hnd : f1.Nodup) (hM : ∀ b ∈ f1, ∀ m, ¬ M m b) (hndy : fys.flatten.Nodup) (hdis : ∀ b ∈ f1, b ∉ fys.flatten) (hMs : ∀ m b, M m b → b < w.heap.size) (hfs : ∀ b ∈ f1, b < w.heap.size) (hys : ∀ b ∈ fys.flatten, b < w.heap.size)
    (hlim : xs.length + ys.length ≤ lim) :
    ∃ v' w' f2, (Builtin.append_ #[T, T] ty #[.slice ad n cap, .slice yd ys.length c]).run P w = .ok v' w' ∧ Rep M w' (.osl t) [v'] (xs ++ ys) f2 ∧ Rep M w' (.osl t) [.slice ad n cap] xs f1 ∧ f2.Nodup ∧
      (∀ b ∈ f2, b ∈ f1 ∨ b ∈ fys.flatten ∨ (w.heap.size ≤ b ∧ b < w'.heap.size)) ∧ w.heap.size ≤ w'.heap.size ∧ w'.os = w.os ∧ w'.tape = w.tape ∧ w'.output = w.output ∧
      (∀ b, b < w.heap.size → b ∉ f1 → w'.heap[b]? = w.heap[b]?) ∧ (∀ m b, M m b → Sm w w' b) ∧ (∀ b ∈ fys.flatten, Sm w w' b) := by
  obtain ⟨rfl, hcap, fxs, hxe, hfx1, hfx2, hxa⟩ := Elems.osl hx
  have hpos := hS.pos
  obtain ⟨olds, o1, o2, o3, o4⟩ := hxe.cells hpos
  obtain ⟨news, n1, n2, n3, n4⟩ := hy.cells hpos
  have hlx := hxe.1
  have hly := hy.1
  obtain ⟨v', w', hr, hcase⟩ := append_run (P := P) (w := w) (ty := ty) hT hS hi hsz (ad := ad) (yd := yd) (n := xs.length) (cap := cap) (m := ys.length) (c := c) (olds := olds) (news := news) o1
    (fun b hb j v hj => o3 b hb (by rintro rfl; simp at o1; subst o1; simp at hj) j v hj)
    (fun b hb => by rcases hxa with ⟨h0, _⟩ | ⟨b', o', h0, _⟩ <;> rw [hb] at h0 <;> cases h0; rfl) hcap
    (fun h0 => by rcases hxa with ⟨_, h, _⟩ | ⟨b', o', h, _⟩; exact h; rw [h0] at h; cases h) n1 n2
    (fun b hb hm j v hj => n3 b hb (by rintro rfl; simp at hm) j v hj)
    (fun h0 => by rcases hy.2 with rfl | ⟨b, o, h, _⟩; rfl; rw [h0] at h; cases h)
    (fun b hb => by
      rcases hxa with ⟨h0, _⟩ | ⟨b', o', h0, _, hfr⟩
      · rw [hb] at h0; cases h0
      · rw [hb] at h0; cases h0; exact hfr) hlim
  have hflat : (fxs ++ fys).flatten = fxs.flatten ++ fys.flatten := by simp
  have hnd2 : (fxs ++ fys).flatten.Nodup := by
    rw [hflat, List.nodup_append]
    exact ⟨hfx2 hnd, hndy, fun a ha b hb e => hdis a (hfx1 a ha) (e ▸ hb)⟩
  -- each element of the whole list, out of a row of cells
  have hel : ∀ (k : Nat) (y : t.den) (f : List Nat), (xs ++ ys)[k]? = some y → (fxs ++ fys)[k]? = some f → Rep M w t (((olds ++ news).drop (k * t.size)).take t.size) y f ∧ ∀ b ∈ f, b ∈ fxs.flatten ∨ b ∈ fys.flatten := by
    intro k y f hk hf
    rcases Nat.lt_or_ge k xs.length with h | h
    · rw [List.getElem?_append_left h] at hk
      rw [List.getElem?_append_left (by omega)] at hf
      have h1 : (k + 1) * t.size ≤ xs.length * t.size := Nat.mul_le_mul_right _ h
      rw [Nat.add_mul, Nat.one_mul] at h1
      rw [List.drop_append_of_le_length (by omega), List.take_append_of_le_length (by simp; omega)]
      exact ⟨o4 k y f hk hf, fun b hb => .inl (List.mem_flatten.2 ⟨f, List.mem_of_getElem? hf, hb⟩)⟩
    · rw [List.getElem?_append_right h] at hk
      rw [List.getElem?_append_right (by omega), hlx] at hf
      have h1 : xs.length * t.size ≤ k * t.size := Nat.mul_le_mul_right _ h
      rw [List.drop_append, List.drop_of_length_le (by omega), List.nil_append, o1, show k * t.size - xs.length * t.size = (k - xs.length) * t.size by rw [Nat.sub_mul]]
      exact ⟨n4 _ y f hk hf, fun b hb => .inr (List.mem_flatten.2 ⟨f, List.mem_of_getElem? hf, hb⟩)⟩
  rcases hcase with ⟨hroom, rfl, hw⟩ | ⟨cap', cells, hgr, hge, rfl, hg, hh, hhs, hcs, hcl⟩
  · rcases hw with ⟨rfl, rfl⟩ | ⟨b, rfl, rfl⟩
    · -- nil onto nil
      have hc0 : cap = 0 := by rcases hxa with ⟨_, h, _⟩ | ⟨b', o', h, _⟩; exact h; cases h
      obtain rfl : xs = [] := List.eq_nil_of_length_eq_zero (by omega)
      obtain rfl : ys = [] := List.eq_nil_of_length_eq_zero (by omega)
      exact ⟨_, w', f1, hr, by simpa using hx, hx, hnd, fun b hb => .inl hb, Nat.le_refl _, rfl, rfl, rfl, fun _ _ _ => rfl, fun _ _ _ => Sm.refl _ _, fun _ _ => Sm.refl _ _⟩
    · rcases hxa with ⟨h0, _⟩ | ⟨b', o', h0, rfl, hfr⟩
      · cases h0
      cases h0
      have hb' : b' ∉ fxs.flatten := (List.nodup_cons.1 hnd).1
      have hby : b' ∉ fys.flatten := hdis b' (by simp)
      have hmul : (xs.length + ys.length) * t.size ≤ cap * t.size := Nat.mul_le_mul_right _ hroom
      rw [Nat.add_mul] at hmul
      have hsome : ∀ j, j < news.length → (w.cell? ⟨b', o' + xs.length * t.size + j, none⟩).isSome = true := fun j hj => (hfr _ (by omega) (by omega)).1
      have hMsm : ∀ m k, M m k → M m k ∧ Sm w (w.setCells b' (o' + xs.length * t.size) news) k := fun m k hk => ⟨hk, setCells_sm (fun e => hM b' (by simp) m (e ▸ hk))⟩
      have hfr' : Fr (w.setCells b' (o' + xs.length * t.size) news) b' o' (o' + cap * t.size) := fun j h1 h2 => by
        rw [setCells_some b' news _ w hsome, World.frozen?_setCells]; exact hfr j h1 h2
      have hat : ∀ j v, (olds ++ news)[j]? = some v → (w.setCells b' (o' + xs.length * t.size) news).cell? ⟨b', o' + j, none⟩ = some v := by
        intro j v hj
        rcases Nat.lt_or_ge j olds.length with h | h
        · rw [List.getElem?_append_left h] at hj
          rw [World.cell?_setCells_out b' news _ w _ (fun _ _ => by simp only; omega)]
          have := o3 ⟨b', o', none⟩ rfl (by rintro rfl; simp at o1; subst o1; simp at h) j v hj
          rwa [Addr.add_lit] at this
        · rw [List.getElem?_append_right h] at hj
          obtain ⟨q, rfl⟩ : ∃ q, j = olds.length + q := ⟨j - olds.length, by omega⟩
          rw [Nat.add_sub_cancel_left] at hj
          have hq : q < news.length := (List.getElem?_eq_some_iff.1 hj).1
          rw [o1, ← Nat.add_assoc, World.cell?_setCells_in b' news _ w hsome q hq]
          rw [List.getElem?_eq_getElem hq] at hj; exact hj
      refine ⟨_, _, b' :: (fxs ++ fys).flatten, hr, ?_, ?_, ?_, ?_, by rw [setCells_size]; exact Nat.le_refl _, (setCells_rest _ _ _ _).1, (setCells_rest _ _ _ _).2.1, (setCells_rest _ _ _ _).2.2, ?_, fun m k hk => (hMsm m k hk).2, fun k hk => setCells_sm (fun e => hby (by have e' : k = b' := e; rw [← e']; exact hk))⟩
      · refine ⟨some ⟨b', o', none⟩, cap, by simp, .inr ⟨b', o', fxs ++ fys, rfl, rfl, by simp [hlx, hly], by simpa using hroom, hfr', fun k y f hk hf => ?_⟩⟩
        obtain ⟨h1, h2⟩ := hel k y f hk hf
        refine ⟨_, h1.len, fun j v hj => ?_, h1.mono hMsm (fun q hq => setCells_sm (fun e => ?_))⟩
        · have hj' : (olds ++ news)[k * t.size + j]? = some v := by
            rw [List.getElem?_take] at hj
            split at hj
            · rwa [List.getElem?_drop] at hj
            · cases hj
          rw [Nat.add_assoc]; exact hat _ _ hj'
        · subst e
          rcases h2 q hq with h | h
          · exact hb' h
          · exact hby h
      · refine ⟨some ⟨b', o', none⟩, cap, rfl, .inr ⟨b', o', fxs, rfl, rfl, hlx, hcap, hfr', fun k y f hk hf => ?_⟩⟩
        have hkl : k < xs.length := (List.getElem?_eq_some_iff.1 hk).1
        obtain ⟨h1, h2⟩ := hel k y f (by rw [List.getElem?_append_left hkl]; exact hk) (by rw [List.getElem?_append_left (by omega)]; exact hf)
        refine ⟨_, h1.len, fun j v hj => ?_, h1.mono hMsm (fun q hq => setCells_sm (fun e => ?_))⟩
        · have hj' : (olds ++ news)[k * t.size + j]? = some v := by
            rw [List.getElem?_take] at hj
            split at hj
            · rwa [List.getElem?_drop] at hj
            · cases hj
          rw [Nat.add_assoc]; exact hat _ _ hj'
        · subst e
          exact hb' (List.mem_flatten.2 ⟨f, List.mem_of_getElem? hf, hq⟩)
      · rw [List.nodup_cons, hflat]
        exact ⟨by simp [hb', hby], hflat ▸ hnd2⟩
      · intro k hk
        rcases List.mem_cons.1 hk with rfl | hk
        · exact .inl (by simp)
        · rw [hflat] at hk
          rcases List.mem_append.1 hk with h | h
          · exact .inl (List.mem_cons_of_mem _ h)
          · exact .inr (.inl h)
      · intro k _ hk
        exact setCells_ne b' _ _ _ k (fun e => hk (e ▸ by simp))
  · have hMsm : ∀ m k, M m k → M m k ∧ Sm w w' k := fun m k hk => ⟨hk, .of_heap (hg.heap k (hMs m k hk))⟩
    have hnew : ∀ j, (w'.cell? ⟨w.heap.size, j, none⟩) = cells[j]? ∧ w'.frozen? ⟨w.heap.size, j, none⟩ = false := fun j => by
      simp [World.cell?, World.frozen?, hh]
    refine ⟨_, w', w.heap.size :: (fxs ++ fys).flatten, hr, ?_, hx.mono hMsm (fun k hk => .of_heap (hg.heap k (hfs k hk))), ?_, ?_, hg.size, hg.os, hg.tape, hg.output, fun k hk _ => hg.heap k hk, fun m k hk => (hMsm m k hk).2, fun k hk => .of_heap (hg.heap k (hys k hk))⟩
    · refine ⟨some ⟨w.heap.size, 0, none⟩, cap', by simp, .inr ⟨w.heap.size, 0, fxs ++ fys, rfl, rfl, by simp [hlx, hly], by simpa using hge, fun j _ h2 => ?_, fun k y f hk hf => ?_⟩⟩
      · rw [(hnew j).1, (hnew j).2]
        exact ⟨by simp; omega, rfl⟩
      · obtain ⟨h1, h2⟩ := hel k y f hk hf
        refine ⟨_, h1.len, fun j v hj => ?_, h1.mono hMsm (fun q hq => .of_heap (hg.heap q ?_))⟩
        · rw [(hnew _).1]
          have hj' : (olds ++ news)[k * t.size + j]? = some v := by
            rw [List.getElem?_take] at hj
            split at hj
            · rwa [List.getElem?_drop] at hj
            · cases hj
          rw [Nat.zero_add]; exact hcl _ _ hj'
        · rcases h2 q hq with h | h
          · exact hfs q (hfx1 q h)
          · exact hys q h
    · rw [List.nodup_cons]
      refine ⟨fun h => ?_, hnd2⟩
      rw [hflat] at h
      rcases List.mem_append.1 h with h | h
      · have := hfs _ (hfx1 _ h); omega
      · have := hys _ h; omega
    · intro k hk
      rcases List.mem_cons.1 hk with rfl | hk
      · exact .inr (.inr ⟨Nat.le_refl _, by omega⟩)
      · rw [hflat] at hk
        rcases List.mem_append.1 hk with h | h
        · exact .inl (hfx1 k h)
        · exact .inr (.inl h)
end Go.Fw
end

section
namespace Go.Fw
theorem SetP.get : ∀ {p : List Step} {τ : Ty} {x x' : τ.den} {τ' : Ty} {y : τ'.den}, SetP τ x p τ' y x' → ∃ y0, GetP τ x p τ' y0
  | [], τ, x, _, _, _, h => by obtain ⟨rfl, _⟩ := SetP.nil_iff.1 h; exact ⟨x, GetP.nil_iff.2 ⟨rfl, rfl⟩⟩
  | s :: p, τ, _, _, _, _, h => by
      cases τ <;> cases s <;> simp only [SetP] at h
      case osl.idx => obtain ⟨e, e', he, h, _⟩ := h; obtain ⟨y0, h0⟩ := SetP.get (p := p) h; exact ⟨y0, e, he, h0⟩
      case optr.deref => exact SetP.get (p := p) h
      case st.unst => exact SetP.get (p := p) h
      case pr.fst => obtain ⟨e', h, _⟩ := h; exact SetP.get (p := p) h
      case pr.snd => obtain ⟨e', h, _⟩ := h; exact SetP.get (p := p) h
theorem SetP.same : ∀ {p : List Step} {τ : Ty} {x : τ.den} {τ' : Ty} {y : τ'.den}, GetP τ x p τ' y → SetP τ x p τ' y x
  | [], τ, x, _, _, h => by obtain ⟨rfl, rfl⟩ := GetP.nil_iff.1 h; exact SetP.nil_iff.2 ⟨rfl, rfl⟩
  | s :: p, τ, x, _, _, h => by
      cases τ <;> cases s <;> simp only [GetP] at h
      case osl.idx i =>
        obtain ⟨e, he, h⟩ := h
        refine ⟨e, e, he, SetP.same (p := p) h, ?_⟩
        obtain ⟨hi, rfl⟩ := List.getElem?_eq_some_iff.1 he
        exact (List.set_getElem_self hi).symm
      case optr.deref => exact SetP.same (p := p) h
      case st.unst => exact SetP.same (p := p) h
      case pr.fst => exact ⟨x.1, SetP.same (p := p) h, rfl⟩
      case pr.snd => exact ⟨x.2, SetP.same (p := p) h, rfl⟩
theorem mixv_one {d : Nat} {t : Tree} {α : Type} {a : α} {b : Nat → α} : mixv [(d, t)] (fun _ => a) b d = a := by simp [mixv, lk_cons]
section
variable {E : Env} {C : Ctx} {st : St} {a : Act} {tm : Array Value} {w : World} {I : Nat → Prop} {rt : Nat → List Value} {fp : Nat → List Nat} {o : Oper}
theorem setCells_chg {b o' n : Nat} {cs : List Value} (hl : cs.length = n) (hfr : Fr w b o' (o' + n)) (c : Nat) : Chg w (w.setCells b o' cs) (some (b, o')) n c := by
  have hsome : ∀ j, j < cs.length → (w.cell? ⟨b, o' + j, none⟩).isSome = true := fun j hj => (hfr _ (by omega) (by omega)).1
  refine ⟨fun j hj => World.cell?_setCells_out b cs o' w _ (fun e _ => ?_), fun j => World.frozen?_setCells _ _ _ _ _, fun j => ?_⟩
  · have e : c = b := e
    have := hj o' (by rw [e])
    simp only; omega
  · by_cases e : c = b
    · subst e; exact setCells_some c cs o' w hsome j
    · rw [((setCells_sm (w := w) (o := o') (vs := cs) e) j).1]
theorem RelAt.store (hR : RelAt C st tm w I rt fp) {id : Nat} {t : Tree} (ht : lk st.h id = some t) {p : List Step} {τ' : Ty} {b o' : Nat} {cs0 : List Value} (hn : Nav w t.1 none (rt id) p τ' (some (b, o')) cs0) {y : τ'.den} {x' : t.1.den}
    (hs : SetP t.1 t.2 p τ' y x') {cs' : List Value} {fy S2 : List Nat} (hy : Rep (md I C.B) w τ' cs' y fy) (hnd : fy.Nodup) (hS2 : id ∉ S2)
    (hfy : ∀ c ∈ fy, (∃ f1, ∃ y0 : τ'.den, τ'.nb = true ∧ Rep (md I C.B) w τ' cs0 y0 f1 ∧ c ∈ f1) ∨ ∃ i ∈ S2, ∃ u, lk st.h i = some u ∧ c ∈ fp i) :
    Fr w b o' (o' + τ'.size) ∧ ∃ rtn fpn, RelAt C ⟨kill (id :: S2) [(id, p)] st.g, (id, ⟨t.1, x'⟩) :: del (id :: S2) st.h⟩ tm (w.setCells b o' cs') I rtn fpn := by
  obtain ⟨hr, hnodup, hblk⟩ := hR.tree id t ht
  obtain ⟨y0, hg⟩ := hs.get
  obtain ⟨loc', cs1, f', rest, g1, g2, g3, g4, g5, g6⟩ := focus p (loc := none) hr (fun _ _ h => by cases h) hnodup (fun _ _ h => by cases h) (hR.notM ht) hg
  obtain ⟨_, e1, e2⟩ := hn.det g1
  subst e1; subst e2
  obtain ⟨_, hfr⟩ := g3 b o' rfl
  have hbrest : b ∈ rest := by
    rcases g5 b o' rfl with ⟨q, h, _⟩ | h
    · cases h
    · exact h
  have hbfp : b ∈ fp id := g4.mem_iff.2 (by simp [hbrest])
  have hnd2 := g4.nodup_iff.1 hnodup
  rw [List.nodup_append] at hnd2
  obtain ⟨hn1, hn2, hn3⟩ := hnd2
  have hcl : ∀ c ∈ fy, c ∈ f' ∨ ∃ i ∈ S2, ∃ u, lk st.h i = some u ∧ c ∈ fp i := fun c hc => by
    rcases hfy c hc with ⟨f1, y1, hb, hr1, h⟩ | h
    · rw [← Rep.uniq hb g2 hr1] at h; exact .inl h
    · exact .inr h
  have hother : ∀ i ∈ S2, ∀ u, lk st.h i = some u → ∀ c ∈ fp i, c ∉ fp id := fun i hi u hu c hc hc' => hR.dis i id u t hu ht (fun e => hS2 (e ▸ hi)) c hc hc'
  have hfyb : ∀ c ∈ fy, c ∉ rest := fun c hc hc' => by
    rcases hcl c hc with h | ⟨i, hi, u, hu, h⟩
    · exact hn3 c h c hc' rfl
    · exact hother i hi u hu c h (g4.mem_iff.2 (by simp [hc']))
  have hMb : ∀ m c, md I C.B m c → c ≠ b := fun m c hc e => hR.notM ht b hbfp m (e ▸ hc)
  have hchg := setCells_chg (w := w) hy.len hfr
  have hyw : Rep (md I C.B) (w.setCells b o' cs') τ' cs' y fy := hy.mono (fun m c hc => ⟨hc, setCells_sm (hMb m c hc)⟩) (fun c hc => setCells_sm (fun e => hfyb c hc (by rw [e]; exact hbrest)))
  have hsome : ∀ j, j < cs'.length → (w.cell? ⟨b, o' + j, none⟩).isSome = true := fun j hj => (hfr _ (by omega) (by have := hy.len; omega)).1
  have hat : At (w.setCells b o' cs') b o' cs' := fun j v hj => by
    have hj' : j < cs'.length := (List.getElem?_eq_some_iff.1 hj).1
    rw [World.cell?_setCells_in b cs' o' w hsome j hj']
    rw [List.getElem?_eq_getElem hj'] at hj; exact hj
  obtain ⟨cs3, f3, k1, _, k2, _, k3, _, k10⟩ := g6 (w.setCells b o' cs') (md I C.B) cs' y fy x' (fun _ _ h => h) (fun c _ => hchg c) hyw (fun h => by cases h) (fun b1 o1 e => by simp only [Option.some.injEq, Prod.mk.injEq] at e; obtain ⟨rfl, rfl⟩ := e; exact hat) hs
  obtain rfl := k2 rfl (.inl (by simp))
  have hf3 : ∀ c ∈ f3, c ∈ fp id ∨ ∃ i ∈ S2, ∃ u, lk st.h i = some u ∧ c ∈ fp i := fun c hc => by
    rcases List.mem_append.1 (k3.mem_iff.1 hc) with h | h
    · rcases hcl c h with h | h
      · exact .inl (g4.mem_iff.2 (by simp [h]))
      · exact .inr h
    · exact .inl (g4.mem_iff.2 (by simp [h]))
  refine ⟨hfr, _, _, hR.upd (S := id :: S2) (keep := [(id, p)]) (new := [(id, ⟨t.1, x'⟩)]) (rtn := fun _ => rt id) (fpn := fun _ => f3) (w' := w.setCells b o' cs') (I' := I) ⟨?_, (setCells_rest _ _ _ _).1, (setCells_rest _ _ _ _).2.1, (setCells_rest _ _ _ _).2.2, ?_, fun _ h => h, fun _ h => .inl h, ?_, ?_, ?_⟩⟩
  · rw [setCells_size]; exact Nat.le_refl _
  · intro c _ hc
    exact setCells_ne b _ _ _ c (fun e => hc id (by simp) t ht (e ▸ hbfp))
  · intro i u hu
    rw [lk_cons] at hu
    split at hu
    · rename_i e
      subst e
      cases hu
      refine ⟨.inl (by simp), k1, ?_, fun c hc => ?_⟩
      · rw [k3.nodup_iff, List.nodup_append]
        exact ⟨hnd, hn2, fun x hx z hz e => hfyb x hx (e ▸ hz)⟩
      · rcases hf3 c hc with h | ⟨i, hi, u, hu, h⟩
        · obtain ⟨q1, q2, q3, q4⟩ := hblk c h
          exact ⟨q1, by rw [setCells_size]; exact q3, .inr ⟨id, by simp, t, ht, h⟩⟩
        · obtain ⟨q1, q2, q3, q4⟩ := (hR.tree i u hu).2.2 c h
          exact ⟨q1, by rw [setCells_size]; exact q3, .inr ⟨i, by simp [hi], u, hu, h⟩⟩
    · cases hu
  · intro i j u v hi hj hij
    rw [lk_cons] at hi hj
    split at hi
    · split at hj
      · rename_i e1 e2; exact absurd (e1.symm.trans e2) hij
      · cases hj
    · cases hi
  · intro i hi u hu
    simp only [List.mem_singleton] at hi
    subst hi
    rw [ht] at hu
    obtain rfl := Option.some.inj hu
    refine ⟨⟨t.1, x'⟩, ?_, rfl, rfl, ⟨_, hn.ty⟩, k10⟩
    rw [lk_cons, if_pos rfl]
inductive SRes where
  | tot (s : St)
  | part (α : Type) (φ : α → Prop) (f : α → St)
  | bad
def SRes.K (r : SRes) (Q : St → Prop) : Prop :=
  match r with
  | .tot s => Q s
  | .part α φ f => ∃ y : α, φ y ∧ Q (f y)
  | .bad => False
def OK1 (E : Env) (C : Ctx) (o : Oper) (st : St) (Q : St → Prop) : Prop :=
  ∀ (a : Act) (w : World), Rel C st a.tmps w → ∀ (next : Act → World → Prop) (X : Exit → Act → World → Prop),
    (∀ st' a' w', Q st' → a'.defers = a.defers → Rel C st' a'.tmps w' → next a' w') → o.wp E.P a w next X
variable {Q : St → Prop}
theorem OK1.eval {an : List (Nat × Ty)} {d : Nat} (hd : o.dst = some d) (hdn : C.ok d) (h : (evalF E.tt an st.h (opA st.g) d o.op).K (fun av new => Q ⟨(d, av) :: st.g, new ++ st.h⟩)) : OK1 E C o st Q := by
  rintro a w ⟨I, rt, fp, hR⟩ next X hn
  exact (evalF_sound hR h).wp hR hd hdn (fun av new a' w' hq hdf hr => hn _ a' w' hq hdf hr)
def placeOf (h : List (Nat × Tree)) (x : AV) : Option (Nat × List Step) :=
  match x with
  | .addr id p => some (id, p)
  | .ref id p => match lk h id with
    | some ⟨τ, _⟩ => match tyAt τ p with
      | some (.optr _) => some (id, p ++ [.deref])
      | _ => none
    | none => none
  | _ => none
def stoF (tt : List (TypeId × Ty)) (st : St) (T : TypeId) (x v : AV) : SRes :=
  match placeOf st.h x with
  | none => .bad
  | some (id, p) => match lk st.h id, lk tt T with
    | some ⟨τ, z⟩, some u => match tyAt τ p with
      | none => .bad
      | some τ' => bif sameLay u τ' then match v with
        | .ref id2 p2 => match lk st.h id2 with
          | some ⟨τ2, y⟩ => bif Nat.beq id id2 then .bad else
              .part (τ'.den × τ.den) (fun q => GetP τ2 y p2 τ' q.1 ∧ SetP τ z p τ' q.1 q.2) (fun q => ⟨kill [id, id2] [(id, p)] st.g, (id, ⟨τ, q.2⟩) :: del [id, id2] st.h⟩)
          | none => .bad
        | .app id2 p2 σ ys own => if _e : τ' = .osl σ then
            .part (List σ.den × τ.den) (fun q => id2 = id ∧ p2 = p ∧ GetP τ z p (.osl σ) q.1 ∧ SetP τ z p (.osl σ) (q.1 ++ ys) q.2) (fun q => ⟨kill (id :: own) [(id, p)] st.g, (id, ⟨τ, q.2⟩) :: del (id :: own) st.h⟩) else .bad
        | v => match coe τ' v with
          | some y => .part τ.den (fun z' => SetP τ z p τ' y z') (fun z' => ⟨kill [id] [(id, p)] st.g, (id, ⟨τ, z'⟩) :: del [id] st.h⟩)
          | none => .bad
      else .bad
    | _, _ => .bad
theorem placeOf_ok (hR : RelAt C st a.tmps w I rt fp) {x : Operand} {id : Nat} {p : List Step} (h : placeOf st.h (opA st.g x) = some (id, p)) {t : Tree} (ht : lk st.h id = some t) {τ' : Ty} (hty : tyAt t.1 p = some τ') :
    ∃ b o' cs, a.eval x = .pointer (some ⟨b, o', none⟩) ∧ Nav w t.1 none (rt id) p τ' (some (b, o')) cs := by
  have hx := hR.opA x
  unfold placeOf at h
  generalize hv : a.eval x = v at hx
  split at h
  · rename_i id' p' ex
    cases h
    rw [ex] at hx
    cases hx with | addr ht' hn =>
    rw [ht] at ht'; cases ht'
    have := hn.ty
    rw [hty] at this; cases this
    exact ⟨_, _, _, rfl, hn⟩
  · rename_i id' p' ex
    split at h
    case h_2 => cases h
    rename_i τ y ht0
    split at h
    case h_2 => cases h
    rename_i t0 hty0
    cases h
    rw [ht] at ht0; cases ht0
    rw [ex] at hx
    cases hx with | ref ht' hn =>
    rw [ht] at ht'; cases ht'
    have := hn.ty
    rw [hty0] at this; cases this
    obtain ⟨b, off, ds, rfl, d1, d2⟩ := navOptr (hR.tree id _ ht).1 hn
    have hn2 := hn.append (Nav.deref1 d1 d2)
    have := hn2.ty
    rw [hty] at this; cases this
    exact ⟨b, off, ds, rfl, hn2⟩
  · cases h
theorem sto_run {T : TypeId} {u τ' : Ty} (hT : lk E.tt T = some u) (hl : sameLay u τ' = true) {x v : Operand} (ho : o.op = .store T x v) {b o' : Nat} (hx : a.eval x = .pointer (some ⟨b, o', none⟩)) {cs : List Value}
    (hv : (a.eval v).cells = cs.toArray) (hc : cs.length = τ'.size) (h1 : ∀ v ∈ cs, v.oneCell' = true) (hf : Fr w b o' (o' + τ'.size)) : (execOp a.eval o).run E.P w = .ok .skip (w.setCells b o' cs) := by
  have hty := (E.ok T u hT).lay hl
  have hst := run_storeCells_cells (P := E.P) b o' cs 0 w (fun j hj => by simpa using (hf (o' + j) (by omega) (by omega)).1) (fun j hj => by simpa using (hf (o' + j) (by omega) (by omega)).2) h1
  simp only [Nat.add_zero] at hst
  have : (storeVar T ⟨b, o', none⟩ (a.eval v)).run E.P w = .ok () (w.setCells b o' cs) := by
    simp only [storeVar, hv, Sem.run_bind, hty.sizeOf, Result.andThen_ok]
    simpa [hc] using hst
  simp [execOp, ho, hx, Instr.storeAt, Instr.sureAddr, this]
theorem stoF_sound {T : TypeId} {x v : Operand} (ho : o.op = .store T x v) (hdst : o.dst = none) (h : (stoF E.tt st T (opA st.g x) (opA st.g v)).K Q) : OK1 E C o st Q := by
  rintro a w ⟨I, rt, fp, hR⟩ next X hnext
  have hv := hR.opA v
  unfold stoF at h
  split at h
  · exact h.elim
  rename_i id p hpl
  split at h
  case h_2 => exact h.elim
  rename_i τ z u ht hT
  split at h
  · exact h.elim
  rename_i τ' hty
  cases hl : sameLay u τ' with
  | false => rw [hl] at h; exact h.elim
  | true =>
  rw [hl] at h
  simp only [cond_true] at h
  obtain ⟨b, o', cs0, hx, hn⟩ := placeOf_ok hR hpl ht hty
  have hTy := (E.ok T u hT).lay hl
  have fin : ∀ (cs' : List Value) (st' : St) (rtn : Nat → List Value) (fpn : Nat → List Nat), (a.eval v).cells = cs'.toArray → cs'.length = τ'.size → (∀ v ∈ cs', v.oneCell' = true) → Fr w b o' (o' + τ'.size) → RelAt C st' a.tmps (w.setCells b o' cs') I rtn fpn → Q st' → o.wp E.P a w next X := by
    intro cs' st' rtn fpn e1 e2 e3 e4 hr hq
    unfold Oper.wp
    rw [sto_run hT hl ho hx e1 e2 e3 e4]
    show next (a.put o.dst undef) _
    rw [hdst]
    exact hnext _ _ _ hq rfl ⟨I, rtn, fpn, hr⟩
  split at h
  · rename_i id2 p2 ev
    split at h
    case h_2 => exact h.elim
    rename_i τ2 y2 ht2
    cases hb : Nat.beq id id2 with
    | true => rw [hb] at h; exact h.elim
    | false =>
      rw [hb] at h
      obtain ⟨⟨y, z'⟩, ⟨hgp, hs⟩, h⟩ := h
      have hne : id ≠ id2 := fun e => by rw [e, Nat.beq_refl] at hb; cases hb
      rw [ev] at hv
      generalize hvv : a.eval v = vv at hv
      cases hv with | ref ht' hn' =>
      rw [ht2] at ht'; cases ht'
      obtain ⟨r1, r2, r3⟩ := hR.tree id2 _ ht2
      obtain ⟨loc2, cs2, f2, rest2, k1, k2, _, k4, _⟩ := focus p2 (τ' := τ') (y := y) r1 (loc := none) (fun _ _ h => by cases h) r2 (fun _ _ h => by cases h) (hR.notM ht2) hgp
      obtain ⟨rfl, rfl, rfl⟩ := hn'.det k1
      have hnd2 : f2.Nodup := (List.nodup_append.1 (k4.nodup_iff.1 r2)).1
      obtain ⟨hfr, rtn, fpn, hR'⟩ := hR.store ht hn hs k2 hnd2 (S2 := [id2]) (by simpa using hne) (fun c hc => .inr ⟨id2, by simp, _, ht2, k4.mem_iff.2 (by simp [hc])⟩)
      exact fin _ _ rtn fpn (by rw [hvv]; exact regV_cells hTy k2.len k2.one) k2.len k2.one hfr hR' h
  · rename_i id2 p2 σ ys own ev
    split at h
    case isFalse => exact h.elim
    rename_i e
    subst e
    obtain ⟨⟨xs, z'⟩, ⟨rfl, rfl, hg, hs⟩, h⟩ := h
    rw [ev] at hv
    generalize hvv : a.eval v = vv at hv
    cases hv with | app ht' hnb hn' hg' h1 hf1 h2 hown hsub hnd =>
    rw [ht] at ht'; cases ht'
    obtain rfl := GetP.uniq hg hg'
    obtain ⟨_, e1, e2⟩ := hn.det hn'
    subst e1; subst e2
    have hnb' : (Ty.osl σ).nb = true := hnb
    obtain ⟨hfr, rtn, fpn, hR'⟩ := hR.store ht hn hs h2 hnd (S2 := own) (fun hm => (hown _ hm).1 rfl) (fun c hc => by
      rcases hsub c hc with q | ⟨i, hi, q⟩
      · exact .inl ⟨_, xs, hnb', h1, q⟩
      · obtain ⟨_, u', hu⟩ := hown i hi
        exact .inr ⟨i, hi, u', hu, q⟩)
    exact fin _ _ rtn fpn (by rw [hvv]; have := regV_cells hTy h2.len h2.one; exact this) h2.len h2.one hfr hR' h
  · split at h
    case h_2 => exact h.elim
    rename_i y hy
    obtain ⟨z', hs, h⟩ := h
    have r1 := coe_rep hTy hv hy
    obtain ⟨hfr, rtn, fpn, hR'⟩ := hR.store ht hn hs r1 (by simp) (S2 := []) (by simp) (by simp)
    exact fin _ _ rtn fpn (by simp) r1.len r1.one hfr hR' h
end
end Go.Fw
end

section
namespace Go.Fw
theorem flatten_mid {α : Type} (l : List (List α)) (lo hi : Nat) : ((l.take hi).drop lo).flatten.Sublist l.flatten := by
  have h : l.flatten = ((l.take hi).take lo).flatten ++ ((l.take hi).drop lo).flatten ++ (l.drop hi).flatten := by
    rw [← List.flatten_append, List.take_append_drop, ← List.flatten_append, List.take_append_drop]
  rw [h]
  exact (List.sublist_append_right _ _).trans (List.sublist_append_left _ _)
section
variable {E : Env} {C : Ctx} {st : St} {a : Act} {tm : Array Value} {w : World} {I : Nat → Prop} {rt : Nat → List Value} {fp : Nat → List Nat} {o : Oper} {Q : St → Prop}
def asgF (an : List (Nat × Ty)) (st : St) (d : Nat) (v : AV) : SRes :=
  match v with
  | .ref id [] => match lk st.h id with
    | some t => .tot ⟨(d, .ref d []) :: kill [id, d] [] st.g, (d, t) :: del [id, d] st.h⟩
    | none => .bad
  | .ref id p => bif Nat.beq id d then .bad else .tot ⟨(d, .ref id p) :: kill [d] [] st.g, del [d] st.h⟩
  | .view id [] lo hi => match lk st.h id with
    | some ⟨.osl t, xs⟩ => .tot ⟨(d, .ref d []) :: kill [id, d] [] st.g, (d, ⟨.osl t, (xs.take hi).drop lo⟩) :: del [id, d] st.h⟩
    | _ => .bad
  | .cv (.slice none 0 0) => match lk an d with
    | some (.osl t) => .tot ⟨(d, .ref d []) :: kill [d] [] st.g, (d, ⟨.osl t, []⟩) :: del [d] st.h⟩
    | _ => .bad
  | _ => .bad
theorem UpdOk.one {w' : World} {I' : Nat → Prop} {S : List Nat} {d : Nat} {t : Tree} {cs : List Value} {f : List Nat} (hd : d ∈ S ∨ lk st.h d = none) (h1 : w.heap.size ≤ w'.heap.size) (h2 : w'.os = w.os) (h3 : w'.tape = w.tape) (h4 : w'.output = w.output)
    (h5 : ∀ b, b < w.heap.size → (∀ id ∈ S, ∀ t, lk st.h id = some t → b ∉ fp id) → w'.heap[b]? = w.heap[b]?) (h6 : ∀ b, I b → I' b) (h7 : ∀ b, I' b → I b ∨ (b < w'.heap.size ∧ (w.heap.size ≤ b ∨ ∃ id ∈ S, ∃ t, lk st.h id = some t ∧ b ∈ fp id)))
    (hr : Rep (md I' C.B) w' t.1 cs t.2 f) (hf : f.Nodup) (hb : ∀ b ∈ f, ¬ I' b ∧ b < w'.heap.size ∧ (w.heap.size ≤ b ∨ ∃ id' ∈ S, ∃ t', lk st.h id' = some t' ∧ b ∈ fp id')) :
    UpdOk C st w w' I I' rt fp S [] [(d, t)] (fun _ => cs) (fun _ => f) := by
  refine ⟨h1, h2, h3, h4, h5, h6, h7, ?_, ?_, fun id hid => by cases hid⟩
  · intro i u hu
    rw [lk_cons] at hu
    split at hu
    · rename_i e
      subst e
      obtain rfl := Option.some.inj hu
      exact ⟨hd, hr, hf, hb⟩
    · cases hu
  · intro i j u v hi hj hij
    rw [lk_cons] at hi hj
    split at hi
    · split at hj
      · rename_i e1 e2; exact absurd (e1.symm.trans e2) hij
      · cases hj
    · cases hi
theorem OK1.asg {an : List (Nat × Ty)} {x : Operand} {d : Nat} (ho : o.op = .assign x) (hd : o.dst = some d) (hdn : C.ok d) (h : (asgF an st d (opA st.g x)).K Q) : OK1 E C o st Q := by
  rintro a w ⟨I, rt, fp, hR⟩ next X hnext
  have hx := hR.opA x
  have hrun : (execOp a.eval o).run E.P w = .ok (.value (a.eval x)) w := by simp [execOp, ho]
  have fin : ∀ (st' : St) (rtn : Nat → List Value) (fpn : Nat → List Nat), RelAt C st' (a.tmps.setIfInBounds d (a.eval x)) w I rtn fpn → Q st' → o.wp E.P a w next X := by
    intro st' rtn fpn hr hq
    unfold Oper.wp
    rw [hrun]
    show next (a.put o.dst (a.eval x)) w
    rw [hd]
    exact hnext _ _ _ hq rfl ⟨I, rtn, fpn, hr⟩
  -- one new tree d out of S, whose root is the value
  have one : ∀ (S : List Nat) (t : Tree) (cs : List Value) (f : List Nat), d ∈ S → Rep (md I C.B) w t.1 cs t.2 f → f.Nodup → (∀ b ∈ f, ∃ id' ∈ S, ∃ t', lk st.h id' = some t' ∧ b ∈ fp id') → a.eval x = regV t.1 cs →
      Q ⟨(d, .ref d []) :: kill S [] st.g, (d, t) :: del S st.h⟩ → o.wp E.P a w next X := by
    intro S t cs f hdS hr hf hb hv hq
    have hu := hR.upd (UpdOk.one (st := st) (C := C) (rt := rt) (w' := w) (I' := I) (S := S) (d := d) (t := t) (cs := cs) (f := f) (.inl hdS) (Nat.le_refl _) rfl rfl rfl (fun _ _ _ => rfl) (fun _ h => h) (fun _ h => .inl h) hr hf (fun b hb' => by
      obtain ⟨i, hi, u, hu, hbi⟩ := hb b hb'
      obtain ⟨q1, q2, q3, q4⟩ := (hR.tree i u hu).2.2 b hbi
      exact ⟨q1, q3, .inr ⟨i, hi, u, hu, hbi⟩⟩))
    refine fin _ _ _ (hu.put hdn (av := .ref d []) ?_) hq
    rw [hv]
    refine .ref (t := t) (loc := none) (by rw [lk_append, lk_cons, if_pos rfl]; rfl) ?_
    rw [mixv_one]
    exact Nav.here
  unfold asgF at h
  split at h
  · rename_i id ex
    split at h
    case h_2 => exact h.elim
    rename_i t ht
    rw [ex] at hx
    obtain ⟨r1, r2, r3⟩ := hR.tree id t ht
    refine one [id, d] t (rt id) (fp id) (by simp) r1 r2 (fun b hb => ⟨id, by simp, t, ht, hb⟩) ?_ h
    generalize hvv : a.eval x = vv at hx
    cases hx with | ref ht' hn =>
    rw [ht] at ht'; cases ht'
    obtain ⟨rfl, rfl, rfl⟩ := Nav.nil_iff.1 hn
    rfl
  · rename_i id p _ ex
    cases hb : Nat.beq id d with
    | true => rw [hb] at h; exact h.elim
    | false =>
      rw [hb] at h
      have hne : id ≠ d := fun e => by rw [e, Nat.beq_refl] at hb; cases hb
      have hu := hR.upd (S := [d]) (keep := []) (new := []) (rtn := rt) (fpn := fp) (w' := w) (I' := I) ⟨Nat.le_refl _, rfl, rfl, rfl, fun _ _ _ => rfl, fun _ h => h, fun _ h => .inl h, (fun _ _ h => by cases h), (fun _ _ _ _ h => by cases h), (fun _ h => by cases h)⟩
      refine fin _ _ _ (hu.put hdn (av := .ref id p) ?_) h
      have := hu.opA (a := a) x
      have e2 : opA (kill [d] [] st.g) x = .ref id p := by
        cases x with
        | tmp t =>
          show gt (kill [d] [] st.g) t = _
          rw [gt_kill, show gt st.g t = .ref id p from ex]
          have : memN id [d] = false := by
            cases hm : memN id [d]
            · rfl
            · exact absurd (by simpa using memN_iff.1 hm) hne
          simp [kill1, kill1b, AV.uses, AV.ids, this]
        | const v => exact absurd ex (by cases v <;> simp [opA])
        | global g => cases ex
        | func f => cases ex
      rw [← e2]
      exact this
  · rename_i id lo hi ex
    split at h
    case h_2 => exact h.elim
    rename_i t xs ht
    rw [ex] at hx
    obtain ⟨r1, r2, r3⟩ := hR.tree id _ ht
    generalize hvv : a.eval x = vv at hx one fin hrun
    cases hx with | viewE => (exact one [id, d] ⟨.osl t, []⟩ [.slice none 0 0] [] (by simp) ⟨none, 0, rfl, .inl ⟨rfl, rfl, rfl, rfl⟩⟩ (by simp) (by simp) rfl h) | view ht' hn l1 l2 l3 =>
    rename_i b off len cap
    rw [ht] at ht'; cases ht'
    obtain ⟨e1, _, e3⟩ := Nav.nil_iff.1 hn
    cases e1
    obtain ⟨ad, cap', hh, hr⟩ := r1
    rw [e3] at hh
    simp only [List.cons.injEq, Value.slice.injEq, and_true] at hh
    obtain ⟨rfl, rfl, rfl⟩ := hh
    rcases hr with ⟨h0, _⟩ | ⟨b', off', fps, h0, hfp, q1, q2, q3, q4⟩
    · cases h0
    cases h0
    have hlen : ((xs.take hi).drop lo).length = hi - lo := by simp; omega
    refine one [id, d] ⟨.osl t, (xs.take hi).drop lo⟩ [.slice (some ⟨b, if cap = lo then off else off + lo * t.size, none⟩) (hi - lo) (cap - lo)] (b :: ((fps.take hi).drop lo).flatten) (by simp) ?_ ?_ ?_ rfl h
    · refine ⟨some ⟨b, if cap = lo then off else off + lo * t.size, none⟩, cap - lo, by rw [hlen], .inr ⟨b, _, (fps.take hi).drop lo, rfl, rfl, by simp [q1], by simp only [hlen]; omega, ?_, ?_⟩⟩
      · intro j h1 h2
        by_cases hc : cap = lo
        · subst hc; simp at h1 h2; omega
        · rw [if_neg hc] at h1 h2
          have : lo * t.size + (cap - lo) * t.size = cap * t.size := by rw [← Nat.add_mul]; congr 1; omega
          exact q3 j (by omega) (by omega)
      · intro i y f hy hf
        have hil : i < hi - lo := by rw [← hlen]; exact (List.getElem?_eq_some_iff.1 hy).1
        rw [List.getElem?_drop, List.getElem?_take_of_lt (by omega)] at hy hf
        obtain ⟨ds, d1, d2, d3⟩ := q4 (lo + i) y f hy hf
        refine ⟨ds, d1, ?_, d3⟩
        rw [if_neg (by omega)]
        rwa [show off + lo * t.size + i * t.size = off + (lo + i) * t.size by rw [Nat.add_mul]; omega]
    · rw [hfp] at r2
      have hsub : ((fps.take hi).drop lo).flatten.Sublist fps.flatten := flatten_mid _ _ _
      rw [List.nodup_cons] at r2 ⊢
      exact ⟨fun hm => r2.1 (hsub.subset hm), r2.2.sublist hsub⟩
    · intro c hc
      refine ⟨id, by simp, _, ht, ?_⟩
      rw [hfp]
      rcases List.mem_cons.1 hc with rfl | hc
      · simp
      · have hsub : ((fps.take hi).drop lo).flatten.Sublist fps.flatten := flatten_mid _ _ _
        exact List.mem_cons_of_mem _ (hsub.subset hc)
  · rename_i ex
    split at h
    case h_2 => exact h.elim
    rename_i t han
    rw [ex] at hx
    refine one [d] ⟨.osl t, []⟩ [.slice none 0 0] [] (by simp) ⟨none, 0, rfl, .inl ⟨rfl, rfl, rfl, rfl⟩⟩ (by simp) (by simp) ?_ h
    generalize hvv : a.eval x = vv at hx
    cases hx
    rfl
  · exact h.elim
end
end Go.Fw
end

section
namespace Go.Fw
inductive YRes (σ : Ty) where
  | tot (ys : List σ.den)
  | part (α : Type) (φ : α → Prop) (f : α → List σ.den)
  | bad
def ysF (h : List (Nat × Tree)) (σ : Ty) (y : AV) : YRes σ :=
  match y with
  | .val (.slc _ t) ys => if e : t = σ then .tot (e ▸ ys) else .bad
  | .cv (.slice none 0 0) => .tot []
  | .ref id p => match lk h id with
    | some ⟨τ, x⟩ => bif σ.pure then .part (List σ.den) (fun ys => GetP τ x p (.osl σ) ys) (fun ys => ys) else .bad
    | none => .bad
  | .view id p lo hi => match lk h id with
    | some ⟨τ, x⟩ => bif σ.pure then .part (List σ.den) (fun ys => GetP τ x p (.osl σ) ys) (fun ys => (ys.take hi).drop lo) else .bad
    | none => .bad
  | _ => .bad
def YRes.to {σ : Ty} (r : YRes σ) (g : Nat → Prop) (f : List σ.den → St) : SRes :=
  match r with
  | .tot ys => .part Unit (fun _ => g ys.length) (fun _ => f ys)
  | .part α φ h => .part α (fun q => φ q ∧ g (h q).length) (fun q => f (h q))
  | .bad => .bad
def appF (tt : List (TypeId × Ty)) (an : List (Nat × Ty)) (st : St) (d : Nat) (T : TypeId) (x y : AV) : SRes :=
  match isSlcT tt T with
  | none => .bad
  | some u => match x with
    | .ref id [] => match lk st.h id with
      | some ⟨.osl σ, xs⟩ => bif sameLay u σ && Nat.ble σ.size 1300 then
          match σ.pure, y with
          | false, .ref id2 [] => match lk st.h id2 with
            | some ⟨.osl σ2, ys⟩ => if e : σ2 = σ then (bif Nat.beq id id2 then .bad else .part Unit (fun _ => xs.length + ys.length ≤ lim) (fun _ => ⟨(d, .ref d []) :: kill [id, id2, d] [] st.g, (d, ⟨.osl σ, xs ++ (e ▸ ys)⟩) :: del [id, id2, d] st.h⟩)) else .bad
            | _ => .bad
          | _, y => (ysF st.h σ y).to (fun n => xs.length + n ≤ lim) (fun ys => ⟨(d, .ref d []) :: kill [id, d] [] st.g, (d, ⟨.osl σ, xs ++ ys⟩) :: del [id, d] st.h⟩)
        else .bad
      | _ => .bad
    | .ref id p => match lk st.h id, lk st.h d with
      | some ⟨τ, x⟩, none => match tyAt τ p with
        | some (.osl σ) => bif sameLay u σ && Nat.ble σ.size 1300 && σ.nb then
            match ysF st.h σ y with
            | .tot ys => .part (List σ.den) (fun xs => GetP τ x p (.osl σ) xs ∧ xs.length + ys.length ≤ lim) (fun _ => ⟨(d, .app id p σ ys [d]) :: kill [id] [(id, p), (id, [])] st.g, (d, ⟨.blk, ()⟩) :: (id, ⟨τ, x⟩) :: del [id] st.h⟩)
            | .part α φ f => .part (List σ.den × α) (fun q => GetP τ x p (.osl σ) q.1 ∧ φ q.2 ∧ q.1.length + (f q.2).length ≤ lim) (fun q => ⟨(d, .app id p σ (f q.2) [d]) :: kill [id] [(id, p), (id, [])] st.g, (d, ⟨.blk, ()⟩) :: (id, ⟨τ, x⟩) :: del [id] st.h⟩)
            | .bad => .bad
          else .bad
        | _ => .bad
      | _, _ => .bad
    | .view id [] lo hi => match lk st.h id with
      | some ⟨.osl σ, xs⟩ => bif sameLay u σ && Nat.ble σ.size 1300 then
          (ysF st.h σ y).to (fun n => ((xs.take hi).drop lo).length + n ≤ lim) (fun ys => ⟨(d, .ref d []) :: kill [id, d] [] st.g, (d, ⟨.osl σ, (xs.take hi).drop lo ++ ys⟩) :: del [id, d] st.h⟩)
        else .bad
      | _ => .bad
    | .cv (.slice none 0 0) => match lk an d with
      | some (.osl σ) => bif sameLay u σ && Nat.ble σ.size 1300 then
          (ysF st.h σ y).to (fun n => n ≤ lim) (fun ys => ⟨(d, .ref d []) :: kill [d] [] st.g, (d, ⟨.osl σ, ys⟩) :: del [d] st.h⟩)
        else .bad
      | _ => .bad
    | _ => .bad
section
variable {E : Env} {C : Ctx} {st : St} {a : Act} {tm : Array Value} {w : World} {I : Nat → Prop} {rt : Nat → List Value} {fp : Nat → List Nat} {o : Oper} {Q : St → Prop}
def YOk (I : Nat → Prop) (B : Nat → Prop) (w : World) (σ : Ty) (v : Value) (ys : List σ.den) : Prop :=
  ∃ yd c fys, v = .slice yd ys.length c ∧ Elems (md I B) w σ yd ys fys ∧ fys.flatten = []
theorem flatten_nil {l : List (List Nat)} (h : ∀ f ∈ l, f = []) : l.flatten = [] := by
  induction l with
  | nil => rfl
  | cons x r ih => rw [List.flatten_cons, h x (by simp), ih (fun f hf => h f (List.mem_cons_of_mem _ hf))]; rfl
theorem Elems.pure {M : Md → Nat → Prop} {σ : Ty} {ad : Option Addr} {ys : List σ.den} {fys : List (List Nat)} (hp : σ.pure = true) (h : Elems M w σ ad ys fys) : fys.flatten = [] := by
  refine flatten_nil (fun f hf => ?_)
  obtain ⟨hl, h⟩ := h
  obtain ⟨i, hi, rfl⟩ := List.mem_iff_getElem.1 hf
  rcases h with rfl | ⟨b, o, _, h⟩
  · simp only [List.length_nil] at hl; omega
  · have hi' : i < ys.length := by omega
    obtain ⟨ds, _, _, hr⟩ := h i ys[i] fys[i] (by simp) (by simp)
    exact hr.pure hp
def YRes.holds {σ : Ty} (r : YRes σ) (ys : List σ.den) : Prop :=
  match r with
  | .tot zs => ys = zs
  | .part α φ f => ∃ q : α, φ q ∧ ys = f q
  | .bad => False
theorem YRes.to_K {σ : Ty} {r : YRes σ} {g : Nat → Prop} {f : List σ.den → St} (h : (r.to g f).K Q) : ∃ ys, r.holds ys ∧ g ys.length ∧ Q (f ys) := by
  unfold YRes.to at h
  cases r with
  | tot ys => obtain ⟨_, h1, h2⟩ := h; exact ⟨ys, rfl, h1, h2⟩
  | part α φ k => obtain ⟨q, ⟨h1, h2⟩, h3⟩ := h; exact ⟨k q, ⟨q, h1, rfl⟩, h2, h3⟩
  | bad => exact h.elim
theorem ysF_ok (hR : RelAt C st a.tmps w I rt fp) {σ : Ty} {y : Operand} {ys : List σ.den} (h : (ysF st.h σ (opA st.g y)).holds ys) : YOk I C.B w σ (a.eval y) ys := by
  have hy := hR.opA y
  unfold ysF at h
  generalize hv : a.eval y = v at hy
  split at h
  · rename_i m t zs ey
    split at h
    case isFalse => exact h.elim
    rename_i e
    subst e
    obtain rfl : ys = zs := h
    rw [ey] at hy
    cases hy with | val r =>
    have r0 := r
    obtain ⟨_, ad, cap, rfl, _⟩ := r0
    obtain ⟨_, he⟩ := Elems.slc r
    exact ⟨ad, cap, _, rfl, he, by simp⟩
  · rename_i ey
    obtain rfl : ys = [] := h
    rw [ey] at hy
    cases hy
    exact ⟨none, 0, [], rfl, ⟨rfl, .inl rfl⟩, rfl⟩
  · rename_i id p ey
    split at h
    case h_2 => exact h.elim
    rename_i τ x ht
    cases hp : σ.pure with
    | false => rw [hp] at h; exact h.elim
    | true =>
      rw [hp] at h
      obtain ⟨zs, hg, rfl⟩ := h
      rw [ey] at hy
      cases hy with | ref ht' hn =>
      rw [ht] at ht'; cases ht'
      obtain ⟨rfl, f, hr, _⟩ := hR.getP ht hg hn
      have hr0 := hr
      obtain ⟨ad, cap, rfl, _⟩ := hr0
      obtain ⟨_, _, fys, he, _⟩ := Elems.osl hr
      exact ⟨ad, cap, fys, rfl, he, he.pure hp⟩
  · rename_i id p lo hi ey
    split at h
    case h_2 => exact h.elim
    rename_i τ x ht
    cases hp : σ.pure with
    | false => rw [hp] at h; exact h.elim
    | true =>
      rw [hp] at h
      obtain ⟨zs, hg, rfl⟩ := h
      rw [ey] at hy
      cases hy with | viewE => (exact ⟨none, 0, [], rfl, ⟨rfl, .inl rfl⟩, rfl⟩) | view ht' hn l1 l2 l3 =>
      rename_i b off len cap
      rw [ht] at ht'; cases ht'
      obtain ⟨e, f, hr, _⟩ := hR.getP ht hg hn
      cases e
      obtain ⟨e1, _, fys, he, _⟩ := Elems.osl hr
      have hlen : ((zs.take hi).drop lo).length = hi - lo := by simp; omega
      show YOk I C.B w σ _ ((zs.take hi).drop lo)
      refine ⟨_, cap - lo, (fys.take hi).drop lo, by rw [hlen], ⟨by simp [he.1], ?_⟩, ?_⟩
      · obtain ⟨hl, he⟩ := he
        by_cases hlh : hi = lo
        · left; apply List.eq_nil_of_length_eq_zero; omega
        · right
          rcases he with rfl | ⟨b', o', e, he⟩
          · simp at hlen; omega
          · cases e
            refine ⟨b, _, rfl, fun i y f hy hf => ?_⟩
            have hil : i < hi - lo := by rw [← hlen]; exact (List.getElem?_eq_some_iff.1 hy).1
            rw [List.getElem?_drop, List.getElem?_take_of_lt (by omega)] at hy hf
            obtain ⟨ds, d1, d2, d3⟩ := he (lo + i) y f hy hf
            refine ⟨ds, d1, ?_, d3⟩
            rw [if_neg (by omega)]
            rwa [show off + lo * σ.size + i * σ.size = off + (lo + i) * σ.size by rw [Nat.add_mul]; omega]
      · have := he.pure hp
        have hs := flatten_mid fys lo hi
        rw [this] at hs
        exact List.sublist_nil.1 hs
  · exact h.elim
theorem viewRep {M : Md → Nat → Prop} {t : Ty} {b off len cap lo hi : Nat} {xs : List t.den} {f : List Nat} (h : Rep M w (.osl t) [.slice (some ⟨b, off, none⟩) len cap] xs f) (hnd : f.Nodup) (l1 : lo ≤ hi) (l2 : hi ≤ len) (l3 : len ≤ cap) :
    ∃ f1, Rep M w (.osl t) [.slice (some ⟨b, if cap = lo then off else off + lo * t.size, none⟩) (hi - lo) (cap - lo)] ((xs.take hi).drop lo) f1 ∧ f1.Nodup ∧ ∀ c ∈ f1, c ∈ f := by
  obtain ⟨ad, cap', hh, hr⟩ := h
  simp only [List.cons.injEq, Value.slice.injEq, and_true] at hh
  obtain ⟨rfl, rfl, rfl⟩ := hh
  rcases hr with ⟨h0, _⟩ | ⟨b', off', fps, h0, rfl, q1, q2, q3, q4⟩
  · cases h0
  cases h0
  have hlen : ((xs.take hi).drop lo).length = hi - lo := by simp; omega
  have hsub : ((fps.take hi).drop lo).flatten.Sublist fps.flatten := flatten_mid _ _ _
  refine ⟨b :: ((fps.take hi).drop lo).flatten, ⟨some ⟨b, if cap = lo then off else off + lo * t.size, none⟩, cap - lo, by rw [hlen], .inr ⟨b, _, (fps.take hi).drop lo, rfl, rfl, by simp [q1], by rw [hlen]; omega, ?_, ?_⟩⟩, ?_, ?_⟩
  · intro j h1 h2
    by_cases hc : cap = lo
    · subst hc; simp at h1 h2; omega
    · rw [if_neg hc] at h1 h2
      have : lo * t.size + (cap - lo) * t.size = cap * t.size := by rw [← Nat.add_mul]; congr 1; omega
      exact q3 j (by omega) (by omega)
  · intro i y f hy hf
    have hil : i < hi - lo := by rw [← hlen]; exact (List.getElem?_eq_some_iff.1 hy).1
    rw [List.getElem?_drop, List.getElem?_take_of_lt (by omega)] at hy hf
    obtain ⟨ds, d1, d2, d3⟩ := q4 (lo + i) y f hy hf
    refine ⟨ds, d1, ?_, d3⟩
    rw [if_neg (by omega)]
    rwa [show off + lo * t.size + i * t.size = off + (lo + i) * t.size by rw [Nat.add_mul]; omega]
  · rw [List.nodup_cons] at hnd ⊢
    exact ⟨fun hm => hnd.1 (hsub.subset hm), hnd.2.sublist hsub⟩
  · intro c hc
    rcases List.mem_cons.1 hc with rfl | hc
    · simp
    · exact List.mem_cons_of_mem _ (hsub.subset hc)
theorem app_run {T : TypeId} {x y : Operand} (ho : o.op = .call { callee := .builtin .append, args := #[x, y], argTypes := #[T, T] }) {v' : Value} {w' : World}
    (hr : (Builtin.append_ #[T, T] o.type #[a.eval x, a.eval y]).run E.P w = .ok v' w') : (execOp a.eval o).run E.P w = .ok (.value v') w' := by
  simp only [execOp, ho, resolve, invoke, builtin, Sem.run_bind, Sem.run_pure, Result.andThen_ok, List.map_toArray, List.map_cons, List.map_nil, hr]
theorem OK1.appTree {T : TypeId} {x y : Operand} {d : Nat} (ho : o.op = .call { callee := .builtin .append, args := #[x, y], argTypes := #[T, T] }) (hd : o.dst = some d) (hdn : C.ok d) (hR : RelAt C st a.tmps w I rt fp)
    {next : Act → World → Prop} {X : Exit → Act → World → Prop} (hnext : ∀ st' a' w', Q st' → a'.defers = a.defers → Rel C st' a'.tmps w' → next a' w')
    {u σ : Ty} (hT : isSlcT E.tt T = some u) (hl : sameLay u σ = true) (hsz : σ.size ≤ 1300) {S : List Nat} (hdS : d ∈ S) {ad : Option Addr} {n cap : Nat} {xs ys : List σ.den} {f1 : List Nat} {fys : List (List Nat)} {yd : Option Addr} {c : Nat}
    (hx : a.eval x = .slice ad n cap) (hrx : Rep (md I C.B) w (.osl σ) [.slice ad n cap] xs f1) (hf1 : f1.Nodup) (hf1S : ∀ b ∈ f1, ∃ i ∈ S, ∃ t, lk st.h i = some t ∧ b ∈ fp i)
    (hy : a.eval y = .slice yd ys.length c) (hey : Elems (md I C.B) w σ yd ys fys) (hfy : fys.flatten.Nodup) (hfyS : ∀ b ∈ fys.flatten, ∃ i ∈ S, ∃ t, lk st.h i = some t ∧ b ∈ fp i) (hdis : ∀ b ∈ f1, b ∉ fys.flatten) (hlim : xs.length + ys.length ≤ lim)
    (hq : Q ⟨(d, .ref d []) :: kill S [] st.g, (d, ⟨.osl σ, xs ++ ys⟩) :: del S st.h⟩) : o.wp E.P a w next X := by
  obtain ⟨i, SS, h1, h5, h6⟩ := isSlcT.ok hT
  have h6' := h6.lay hl
  obtain ⟨ie, _, q5, _⟩ := h6'.info
  have hlt : ∀ i t, lk st.h i = some t → ∀ b ∈ fp i, b < w.heap.size ∧ ∀ m, ¬ md I C.B m b := fun i t ht b hb => ⟨((hR.tree i t ht).2.2 b hb).2.2.1, hR.notM ht b hb⟩
  obtain ⟨v', w', f2, r1, r2, _, r4, r5, r6, r7, r8, r9, r10, r11, _⟩ := append_core (P := E.P) (ty := o.type) h5 h6' q5.info hsz hrx (c := c) hey hf1 (fun b hb => by obtain ⟨i, _, t, ht, hbi⟩ := hf1S b hb; exact (hlt i t ht b hbi).2) hfy hdis
    (fun m b hm => hR.ib b (md_or hm)) (fun b hb => by obtain ⟨i, _, t, ht, hbi⟩ := hf1S b hb; exact (hlt i t ht b hbi).1) (fun b hb => by obtain ⟨i, _, t, ht, hbi⟩ := hfyS b hb; exact (hlt i t ht b hbi).1) hlim
  have hrun : (execOp a.eval o).run E.P w = .ok (.value v') w' := app_run (E := E) ho (by rw [hx, hy]; exact r1)
  have hcov : ∀ b ∈ f2, (∃ i ∈ S, ∃ t, lk st.h i = some t ∧ b ∈ fp i) ∨ (w.heap.size ≤ b ∧ b < w'.heap.size) := fun b hb => by
    rcases r5 b hb with h | h | h
    · exact .inl (hf1S b h)
    · exact .inl (hfyS b h)
    · exact .inr h
  have hu := hR.upd (UpdOk.one (st := st) (C := C) (rt := rt) (w' := w') (I' := I) (S := S) (d := d) (t := ⟨.osl σ, xs ++ ys⟩) (cs := [v']) (f := f2) (.inl hdS) r6 r7 r8 r9
    (fun b hb hS => r10 b hb (fun hf => by obtain ⟨i, hi, t, ht, hbi⟩ := hf1S b hf; exact hS i hi t ht hbi)) (fun _ h => h) (fun _ h => .inl h) r2 r4 (fun b hb => by
      rcases hcov b hb with ⟨i, hi, t, ht, hbi⟩ | ⟨g1, g2⟩
      · obtain ⟨q1, q2, q3, q4⟩ := (hR.tree i t ht).2.2 b hbi
        exact ⟨q1, by omega, .inr ⟨i, hi, t, ht, hbi⟩⟩
      · exact ⟨fun hI => by have := hR.ib b (.inl hI); omega, g2, .inl g1⟩))
  unfold Oper.wp
  rw [hrun]
  show next (a.put o.dst v') w'
  rw [hd]
  refine hnext _ _ _ hq rfl ⟨I, _, _, hu.put hdn (av := .ref d []) ?_⟩
  have : v' = regV (.osl σ) [v'] := rfl
  rw [this]
  refine .ref (t := ⟨.osl σ, xs ++ ys⟩) (loc := none) (by rw [lk_append, lk_cons, if_pos rfl]; rfl) ?_
  rw [mixv_one]
  exact Nav.here
end
end Go.Fw
end
