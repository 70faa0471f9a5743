/-
  The framework, part 5: the operations that only compute or read, as functions on abstract values, and that the machine does what they say.
-/
import Derived.Test.YtlalecmgnaoiiaaFw4
import Derived.Laws.Entries
namespace Go.Fw

def lim : Nat := 4294967296

def getI {α : Type} (xs : List α) (i : Int) : Option α := if 0 ≤ i then xs[i.toNat]? else none

theorem getI_some {α : Type} {xs : List α} {i : Int} {y : α} (h : getI xs i = some y) : i = (i.toNat : Int) ∧ i.toNat < xs.length ∧ xs[i.toNat]? = some y := by
  unfold getI at h
  split at h
  · exact ⟨by omega, (List.getElem?_eq_some_iff.1 h).1, h⟩
  · cases h

inductive Res where
  | tot (av : AV) (new : List (Nat × Tree))
  | part (α : Type) (φ : α → Prop) (f : α → AV × List (Nat × Tree))
  | bad

def Res.K (r : Res) (Q : AV → List (Nat × Tree) → Prop) : Prop :=
  match r with
  | .tot av new => Q av new
  | .part α φ f => ∃ y : α, φ y ∧ Q (f y).1 (f y).2
  | .bad => False

def Ty.pure : Ty → Bool
  | .osl _ | .optr _ | .blk => false
  | .st t => t.pure
  | .pr a b => a.pure && b.pure
  | _ => true

def tyAt : Ty → List Step → Option Ty
  | τ, [] => some τ
  | .osl t, .idx _ :: p => tyAt t p
  | .optr t, .deref :: p => tyAt t p
  | .st t, .unst :: p => tyAt t p
  | .pr a _, .fst :: p => tyAt a p
  | .pr _ b, .snd :: p => tyAt b p
  | _, _ => none

/-- Where a struct's field lies. -/
def fldSteps : Ty → Nat → Option (List Step × Ty)
  | .pr a _, 0 => some ([.fst], a)
  | .pr _ b, n + 1 => match fldSteps b n with | some q => some (.snd :: q.1, q.2) | none => none
  | _, _ => none
def fldOff : Ty → Nat → Nat
  | .pr _ _, 0 => 0
  | .pr a b, n + 1 => a.size + fldOff b n
  | _, _ => 0
def fldV : (τ : Ty) → τ.den → Nat → Option Tree
  | .pr a _, x, 0 => some ⟨a, x.1⟩
  | .pr _ b, x, n + 1 => fldV b x.2 n
  | _, _, _ => none

theorem fldF_get {P : Program} : ∀ {τ : Ty} {fs : List Field} {off : Nat} {zs : List Value} {n : Nat} {s : List Step} {τf : Ty}, FldF P τ fs off zs → fldSteps τ n = some (s, τf) →
    ∃ f, fs[n]? = some f ∧ f.offset = off + fldOff τ n ∧ TyF P τf f.type
  | .pr a b, f :: r, off, zs, 0, s, τf, h, hn => by
      simp only [fldSteps, Option.some.injEq, Prod.mk.injEq] at hn
      obtain ⟨rfl, rfl⟩ := hn
      exact ⟨f, rfl, by rw [h.1]; rfl, h.2.1⟩
  | .pr a b, f :: r, off, zs, n + 1, s, τf, h, hn => by
      simp only [fldSteps] at hn
      split at hn
      · rename_i q hq
        simp only [Option.some.injEq, Prod.mk.injEq] at hn
        obtain ⟨rfl, rfl⟩ := hn
        obtain ⟨f', h1, h2, h3⟩ := fldF_get (τ := b) h.2.2.2.2 (s := q.1) (τf := q.2) hq
        exact ⟨f', by simpa using h1, by rw [h2]; simp only [fldOff]; omega, h3⟩
      · cases hn
  | .pr _ _, [], _, _, _, _, _, h, _ => h.elim
  | .int _, _, _, _, _, _, _, _, hn => by cases hn
  | .bool, _, _, _, _, _, _, _, hn => by cases hn
  | .str, _, _, _, _, _, _, _, hn => by cases hn
  | .slc _ _, _, _, _, _, _, _, _, hn => by cases hn
  | .osl _, _, _, _, _, _, _, _, hn => by cases hn
  | .ptr _ _, _, _, _, _, _, _, _, hn => by cases hn
  | .optr _, _, _, _, _, _, _, _, hn => by cases hn
  | .st _, _, _, _, _, _, _, _, hn => by cases hn
  | .nil, _, _, _, _, _, _, _, hn => by cases hn
  | .blk, _, _, _, _, _, _, _, hn => by cases hn

theorem fldV_steps : ∀ {τ : Ty} {x : τ.den} {n : Nat} {t : Tree}, fldV τ x n = some t → ∃ s, fldSteps τ n = some (s, t.1)
  | .pr a b, x, 0, t, h => by simp only [fldV, Option.some.injEq] at h; subst h; exact ⟨_, rfl⟩
  | .pr a b, x, n + 1, t, h => by
      obtain ⟨s, hs⟩ := fldV_steps (τ := b) h
      exact ⟨.snd :: s, by simp [fldSteps, hs]⟩
  | .int _, _, _, _, h => by cases h
  | .bool, _, _, _, h => by cases h
  | .str, _, _, _, h => by cases h
  | .slc _ _, _, _, _, h => by cases h
  | .osl _, _, _, _, h => by cases h
  | .ptr _ _, _, _, _, h => by cases h
  | .optr _, _, _, _, h => by cases h
  | .st _, _, _, _, h => by cases h
  | .nil, _, _, _, h => by cases h
  | .blk, _, _, _, h => by cases h

theorem fldSteps_le : ∀ {τ : Ty} {n : Nat} {s : List Step} {tf : Ty}, fldSteps τ n = some (s, tf) → fldOff τ n + tf.size ≤ τ.size
  | .pr a b, 0, s, tf, h => by
      simp only [fldSteps, Option.some.injEq, Prod.mk.injEq] at h
      obtain ⟨_, rfl⟩ := h
      simp [fldOff, Ty.size]
  | .pr a b, n + 1, s, tf, h => by
      simp only [fldSteps] at h
      split at h
      · rename_i q hq
        simp only [Option.some.injEq, Prod.mk.injEq] at h
        obtain ⟨_, rfl⟩ := h
        have := fldSteps_le (τ := b) (s := q.1) (tf := q.2) hq
        simp only [fldOff, Ty.size]; omega
      · cases h
  | .int _, _, _, _, h => by cases h
  | .bool, _, _, _, h => by cases h
  | .str, _, _, _, h => by cases h
  | .slc _ _, _, _, _, h => by cases h
  | .osl _, _, _, _, h => by cases h
  | .ptr _ _, _, _, _, h => by cases h
  | .optr _, _, _, _, h => by cases h
  | .st _, _, _, _, h => by cases h
  | .nil, _, _, _, h => by cases h
  | .blk, _, _, _, h => by cases h

theorem fldV_rep {M : Md → Nat → Prop} {w : World} : ∀ {τ : Ty} {x : τ.den} {n : Nat} {t : Tree} {cs : List Value}, Rep M w τ cs x [] → fldV τ x n = some t →
    Rep M w t.1 ((cs.drop (fldOff τ n)).take t.1.size) t.2 [] ∧ fldOff τ n + t.1.size ≤ τ.size
  | .pr a b, x, 0, t, cs, hr, h => by
      simp only [fldV, Option.some.injEq] at h; subst h
      obtain ⟨f1, f2, hf, h1, h2⟩ := hr
      obtain ⟨rfl, rfl⟩ : f1 = [] ∧ f2 = [] := by simpa [eq_comm] using hf
      exact ⟨by simpa [fldOff] using h1, by simp [fldOff, Ty.size]⟩
  | .pr a b, x, n + 1, t, cs, hr, h => by
      obtain ⟨f1, f2, hf, h1, h2⟩ := hr
      obtain ⟨rfl, rfl⟩ : f1 = [] ∧ f2 = [] := by simpa [eq_comm] using hf
      obtain ⟨h3, h4⟩ := fldV_rep (τ := b) h2 h
      refine ⟨?_, by simp only [fldOff, Ty.size]; omega⟩
      simp only [fldOff]
      rwa [List.drop_drop] at h3
  | .int _, _, _, _, _, _, h => by cases h
  | .bool, _, _, _, _, _, h => by cases h
  | .str, _, _, _, _, _, h => by cases h
  | .slc _ _, _, _, _, _, _, h => by cases h
  | .osl _, _, _, _, _, _, h => by cases h
  | .ptr _ _, _, _, _, _, _, h => by cases h
  | .optr _, _, _, _, _, _, h => by cases h
  | .st _, _, _, _, _, _, h => by cases h
  | .nil, _, _, _, _, _, h => by cases h
  | .blk, _, _, _, _, _, h => by cases h

theorem Nav.nil_iff {w : World} {τ τ' : Ty} {l l' : Loc} {cs cs' : List Value} : Nav w τ l cs [] τ' l' cs' ↔ τ = τ' ∧ l = l' ∧ cs = cs' := by cases τ <;> exact Iff.rfl

theorem Nav.append {w : World} : ∀ {p q : List Step} {τ τ1 τ2 : Ty} {l l1 l2 : Loc} {cs c1 c2 : List Value}, Nav w τ l cs p τ1 l1 c1 → Nav w τ1 l1 c1 q τ2 l2 c2 → Nav w τ l cs (p ++ q) τ2 l2 c2
  | [], q, τ, _, _, _, _, _, _, _, _, h, h' => by
      obtain ⟨rfl, rfl, rfl⟩ := Nav.nil_iff.1 h
      exact h'
  | s :: p, q, τ, _, _, _, _, _, _, _, _, h, h' => by
      cases τ <;> cases s <;> simp only [Nav] at h
      case osl.idx t i =>
        obtain ⟨b, o, len, cap, ds, h1, h2, h3, h4, h5⟩ := h
        exact ⟨b, o, len, cap, ds, h1, h2, h3, h4, h5.append h'⟩
      case optr.deref t =>
        obtain ⟨b, o, ds, h1, h2, h3, h4⟩ := h
        exact ⟨b, o, ds, h1, h2, h3, h4.append h'⟩
      case st.unst t => exact Nav.append (p := p) (τ := t) h h'
      case pr.fst t1 t2 => exact Nav.append (p := p) (τ := t1) h h'
      case pr.snd t1 t2 => exact Nav.append (p := p) (τ := t2) h h'

theorem Nav.here {w : World} {τ : Ty} {l : Loc} {cs : List Value} : Nav w τ l cs [] τ l cs := by cases τ <;> exact ⟨rfl, rfl, rfl⟩

theorem Nav.ty {w : World} : ∀ {p : List Step} {τ τ' : Ty} {l l' : Loc} {cs cs' : List Value}, Nav w τ l cs p τ' l' cs' → tyAt τ p = some τ'
  | [], τ, _, _, _, _, _, h => by
      obtain ⟨rfl, _⟩ := Nav.nil_iff.1 h
      cases τ <;> rfl
  | s :: p, τ, _, _, _, _, _, h => by
      cases τ <;> cases s <;> simp only [Nav] at h
      case osl.idx t i => obtain ⟨b, o, len, cap, ds, h1, h2, h3, h4, h5⟩ := h; exact h5.ty
      case optr.deref t => obtain ⟨b, o, ds, h1, h2, h3, h4⟩ := h; exact h4.ty
      case st.unst t => exact Nav.ty (p := p) (τ := t) h
      case pr.fst t1 t2 => exact Nav.ty (p := p) (τ := t1) h
      case pr.snd t1 t2 => exact Nav.ty (p := p) (τ := t2) h

theorem Nav.at {w : World} : ∀ {p : List Step} {τ τ' : Ty} {l l' : Loc} {cs cs' : List Value}, Nav w τ l cs p τ' l' cs' → cs.length = τ.size → (∀ b o, l = some (b, o) → At w b o cs) →
    cs'.length = τ'.size ∧ ∀ b o, l' = some (b, o) → At w b o cs'
  | [], τ, _, _, _, _, _, h, hl, ha => by
      obtain ⟨rfl, rfl, rfl⟩ := Nav.nil_iff.1 h
      exact ⟨hl, ha⟩
  | s :: p, τ, _, l, _, cs, _, h, hl, ha => by
      cases τ <;> cases s <;> simp only [Nav] at h
      case osl.idx t i =>
        obtain ⟨b, o, len, cap, ds, h1, h2, h3, h4, h5⟩ := h
        exact h5.at h3 (fun b' o' e => by simp only [Option.some.injEq, Prod.mk.injEq] at e; obtain ⟨rfl, rfl⟩ := e; exact h4)
      case optr.deref t =>
        obtain ⟨b, o, ds, h1, h2, h3, h4⟩ := h
        exact h4.at h2 (fun b' o' e => by simp only [Option.some.injEq, Prod.mk.injEq] at e; obtain ⟨rfl, rfl⟩ := e; exact h3)
      case st.unst t => exact Nav.at (τ := t) h hl ha
      case pr.fst a b =>
        exact Nav.at (τ := a) h (by simp only [Ty.size] at hl; simp; omega) (fun b o e => (ha b o e).take)
      case pr.snd a b =>
        refine Nav.at (τ := b) h (by simp only [Ty.size] at hl; simp; omega) (fun b' o e => ?_)
        cases l with
        | none => simp at e
        | some q =>
          simp only [Option.map_some, Option.some.injEq, Prod.mk.injEq] at e
          obtain ⟨rfl, rfl⟩ := e
          exact (ha _ _ rfl).drop

theorem Nav.fld {w : World} : ∀ {τ : Ty} {n : Nat} {s : List Step} {τf : Ty} {l : Loc} {cs : List Value}, fldSteps τ n = some (s, τf) →
    Nav w τ l cs s τf (l.map fun q => (q.1, q.2 + fldOff τ n)) ((cs.drop (fldOff τ n)).take τf.size)
  | .pr a b, 0, s, τf, l, cs, h => by
      simp only [fldSteps, Option.some.injEq, Prod.mk.injEq] at h
      obtain ⟨rfl, rfl⟩ := h
      have : (l.map fun q => (q.1, q.2 + fldOff (.pr a b) 0)) = l := by cases l <;> simp [fldOff]
      rw [this]
      simp only [Nav, fldOff, List.drop_zero]
      first | exact Nav.here | exact ⟨rfl, rfl, rfl⟩ | trivial | simp
  | .pr a b, n + 1, s, τf, l, cs, h => by
      simp only [fldSteps] at h
      split at h
      · rename_i q hq
        simp only [Option.some.injEq, Prod.mk.injEq] at h
        obtain ⟨rfl, rfl⟩ := h
        have := Nav.fld (w := w) (τ := b) (s := q.1) (τf := q.2) (l := l.map fun q => (q.1, q.2 + a.size)) (cs := cs.drop a.size) hq
        simp only [Nav, fldOff]
        rw [List.drop_drop] at this
        cases l with
        | none => exact this
        | some q0 => simp only [Option.map_some, Nat.add_assoc] at this ⊢; exact this
      · cases h
  | .int _, _, _, _, _, _, hn => by cases hn
  | .bool, _, _, _, _, _, hn => by cases hn
  | .str, _, _, _, _, _, hn => by cases hn
  | .slc _ _, _, _, _, _, _, hn => by cases hn
  | .osl _, _, _, _, _, _, hn => by cases hn
  | .ptr _ _, _, _, _, _, _, hn => by cases hn
  | .optr _, _, _, _, _, _, hn => by cases hn
  | .st _, _, _, _, _, _, hn => by cases hn
  | .nil, _, _, _, _, _, hn => by cases hn
  | .blk, _, _, _, _, _, hn => by cases hn

theorem GetP.ty : ∀ {p : List Step} {τ : Ty} {x : τ.den} {τ' : Ty} {y : τ'.den}, GetP τ x p τ' y → tyAt τ p = some τ'
  | [], τ, _, _, _, h => by obtain ⟨rfl, _⟩ := GetP.nil_iff.1 h; cases τ <;> rfl
  | s :: p, τ, _, _, _, h => by
      cases τ <;> cases s <;> simp only [GetP] at h
      case osl.idx t i => obtain ⟨e, _, h⟩ := h; exact h.ty
      case optr.deref => exact GetP.ty (p := p) h
      case st.unst => exact GetP.ty (p := p) h
      case pr.fst => exact GetP.ty (p := p) h
      case pr.snd => exact GetP.ty (p := p) h

theorem GetP.uniq : ∀ {p : List Step} {τ : Ty} {x : τ.den} {τ' : Ty} {y y' : τ'.den}, GetP τ x p τ' y → GetP τ x p τ' y' → y = y'
  | [], τ, _, _, _, _, h, h' => by
      obtain ⟨rfl, h⟩ := GetP.nil_iff.1 h
      obtain ⟨_, h'⟩ := GetP.nil_iff.1 h'
      exact h.symm.trans h'
  | s :: p, τ, _, _, _, _, h, h' => by
      cases τ <;> cases s <;> simp only [GetP] at h h'
      case osl.idx =>
        obtain ⟨e, he, h⟩ := h
        obtain ⟨e', he', h'⟩ := h'
        rw [he] at he'
        obtain rfl := Option.some.inj he'
        exact h.uniq h'
      case optr.deref => exact GetP.uniq (p := p) h h'
      case st.unst => exact GetP.uniq (p := p) h h'
      case pr.fst => exact GetP.uniq (p := p) h h'
      case pr.snd => exact GetP.uniq (p := p) h h'

/-- What an operation yields on the machine, beside what is said of it. -/
def Yields (E : Env) (C : Ctx) (st : St) (a : Act) (w : World) (I : Nat → Prop) (rt : Nat → List Value) (fp : Nat → List Nat) (o : Oper) (Q : AV → List (Nat × Tree) → Prop) : Prop :=
  ∃ v w' I' rtn fpn av new, (execOp a.eval o).run E.P w = .ok (.value v) w' ∧ Grew w w' ∧ (∀ b, I b → I' b) ∧ (∀ b, I' b → I b ∨ (w.heap.size ≤ b ∧ b < w'.heap.size)) ∧
    NewOk C st w w' I' new rtn fpn ∧ AVok (md I' C.B) w' (new ++ st.h) (mixv new rtn rt) (mixv new fpn fp) av v ∧ Q av new

section
variable {E : Env} {C : Ctx} {st : St} {a : Act} {w : World} {I : Nat → Prop} {rt : Nat → List Value} {fp : Nat → List Nat} {o : Oper} {Q : AV → List (Nat × Tree) → Prop}

theorem Yields.pure {v : Value} {av : AV} (hr : (execOp a.eval o).run E.P w = .ok (.value v) w) (hv : AVok (md I C.B) w st.h rt fp av v) (hq : Q av []) : Yields E C st a w I rt fp o Q :=
  ⟨v, w, I, rt, fp, av, [], hr, .refl w, fun _ h => h, fun _ h => .inl h, .nil, hv, hq⟩

theorem Yields.mono {Q' : AV → List (Nat × Tree) → Prop} (h : Yields E C st a w I rt fp o Q) (hq : ∀ av new, Q av new → Q' av new) : Yields E C st a w I rt fp o Q' := by
  obtain ⟨v, w', I', rtn, fpn, av, new, h1, h2, h3, h4, h5, h6, h7⟩ := h
  exact ⟨v, w', I', rtn, fpn, av, new, h1, h2, h3, h4, h5, h6, hq _ _ h7⟩

/-- The step of one operation: what is known behind it. -/
theorem Yields.wp (hR : RelAt C st a.tmps w I rt fp) (h : Yields E C st a w I rt fp o Q) {next : Act → World → Prop} {X : Exit → Act → World → Prop} {d : Nat} (hd : o.dst = some d) (hdn : C.ok d)
    (hn : ∀ av new a' w', Q av new → a'.defers = a.defers → Rel C ⟨(d, av) :: st.g, new ++ st.h⟩ a'.tmps w' → next a' w') : o.wp E.P a w next X := by
  obtain ⟨v, w', I', rtn, fpn, av, new, h1, h2, h3, h4, h5, h6, h7⟩ := h
  unfold Oper.wp
  rw [h1]
  show next (a.put o.dst v) w'
  rw [hd]
  exact hn av new _ _ h7 rfl ⟨I', _, _, (hR.ext h2 h3 h4 h5).put hdn h6⟩

/-- Integers. -/
def binI (op : BinOp) (k : IntKind) (x : Int) (k' : IntKind) (y : Int) : Res :=
  let z (p : Prop) (r : Int) : Res := if k = k' then .part Int (fun z => p ∧ r = z) (fun z => (.val (.int k) z, [])) else .bad
  let b (r : Bool) : Res := if k = k' then .tot (.val .bool r) [] else .bad
  match op with
  | .add => z True (k.wrap (x + y))
  | .sub => z True (k.wrap (x - y))
  | .mul => z True (k.wrap (x * y))
  | .quo => z (y ≠ 0) (k.wrap (x.tdiv y))
  | .rem => z (y ≠ 0) (x.tmod y)
  | .and => z True (k.wrap (BitVec.ofInt k.bits x &&& BitVec.ofInt k.bits y).toNat)
  | .or => z True (k.wrap (BitVec.ofInt k.bits x ||| BitVec.ofInt k.bits y).toNat)
  | .xor => z True (k.wrap (BitVec.ofInt k.bits x ^^^ BitVec.ofInt k.bits y).toNat)
  | .andNot => z True (k.wrap (BitVec.ofInt k.bits x &&& ~~~BitVec.ofInt k.bits y).toNat)
  | .shl => .part Int (fun z => 0 ≤ y ∧ k.wrap (x * 2 ^ min y.toNat k.bits) = z) (fun z => (.val (.int k) z, []))
  | .shr => .part Int (fun z => 0 ≤ y ∧ x.fdiv (2 ^ min y.toNat k.bits) = z) (fun z => (.val (.int k) z, []))
  | .eql => b (x == y)
  | .neq => b (x != y)
  | .lss => b (decide (x < y))
  | .leq => b (decide (x ≤ y))
  | .gtr => b (decide (x > y))
  | .geq => b (decide (x ≥ y))

def binF (op : BinOp) (x y : AV) : Res :=
  match x, y with
  | .val (.int k) x, .val (.int k') y => binI op k x k' y
  | .val .bool x, .val .bool y => match op with
    | .eql => .tot (.val .bool (x == y)) []
    | .neq => .tot (.val .bool (!(x == y))) []
    | _ => .bad
  | _, _ => .bad

theorem binI_sound {op : BinOp} {t u : TypeId} {x y : Operand} {k k' : IntKind} {m n : Int} (ho : o.op = .binOp op t x y u) (hx : a.eval x = .int k m) (hy : a.eval y = .int k' n) (h : (binI op k m k' n).K Q) :
    Yields E C st a w I rt fp o Q := by
  have hg : ∀ w, (eqGuard op t x y (.int k m) (.int k' n)).run E.P w = .ok () w := fun w => by
    unfold eqGuard
    cases op <;> simp
  have shl : op = .shl → Yields E C st a w I rt fp o Q := by
    rintro rfl
    simp only [binI] at h
    obtain ⟨z, ⟨h0, rfl⟩, h⟩ := h
    exact .pure (v := .int k _) (by simp [execOp, ho, hx, hy, hg, binOp, Op.shift, show ¬ n < 0 by omega]) (.int k _) h
  have shr : op = .shr → Yields E C st a w I rt fp o Q := by
    rintro rfl
    simp only [binI] at h
    obtain ⟨z, ⟨h0, rfl⟩, h⟩ := h
    exact .pure (v := .int k _) (by simp [execOp, ho, hx, hy, hg, binOp, Op.shift, show ¬ n < 0 by omega]) (.int k _) h
  by_cases hk : k = k'
  case neg =>
    cases op <;> simp only [binI, hk, if_false] at h
    case shl => exact shl rfl
    case shr => exact shr rfl
    all_goals exact h.elim
  subst hk
  cases op <;> simp only [binI, if_true] at h
  case shl => exact shl rfl
  case shr => exact shr rfl
  case quo | rem =>
    obtain ⟨z, ⟨h0, rfl⟩, h⟩ := h
    exact .pure (v := .int k _) (by simp [execOp, ho, hx, hy, hg, binOp, Op.intDiv, h0]) (.int k _) h
  case add | sub | mul =>
    obtain ⟨z, ⟨_, rfl⟩, h⟩ := h
    exact .pure (v := .int k _) (by simp [execOp, ho, hx, hy, hg, binOp, Op.intArith]) (.int k _) h
  case and | or | xor | andNot =>
    obtain ⟨z, ⟨_, rfl⟩, h⟩ := h
    exact .pure (v := .int k _) (by simp only [execOp, ho, hx, hy, Sem.run_bind, hg, binOp, Op.intBits]; simp) (.int k _) h
  all_goals exact .pure (v := .bool _) (by simp [execOp, ho, hx, hy, hg, binOp, Op.intCmp]) (.bool _) h

theorem run_equalIn_bool {P : Program} (w : World) (d : Nat) {t : TypeId} (p q : Bool) (h : P.underlying t = some .bool) : (Op.equalIn (d + 1) t (.bool p) (.bool q)).run P w = .ok (p == q) w := by
  simp [Op.equalIn, run_underlying h]
theorem run_eql_bool {P : Program} (w : World) {t : TypeId} (p q : Bool) (h : P.underlying t = some .bool) : (binOp .eql t (.bool p) (.bool q)).run P w = .ok (.bool (p == q)) w := by
  simp only [binOp]
  simp [Op.equal, Op.maxDepth, run_equalIn_bool w 9999 p q h]
theorem run_neq_bool {P : Program} (w : World) {t : TypeId} (p q : Bool) (h : P.underlying t = some .bool) : (binOp .neq t (.bool p) (.bool q)).run P w = .ok (.bool (!(p == q))) w := by
  simp only [binOp]
  simp [Op.equal, Op.maxDepth, run_equalIn_bool w 9999 p q h]

theorem binF_sound (hR : RelAt C st a.tmps w I rt fp) {op : BinOp} {t u : TypeId} {x y : Operand} (ho : o.op = .binOp op t x y u)  (hb : ∀ p q : Bool, (op = .eql ∨ op = .neq) → (opA st.g x = .val .bool p ∧ opA st.g y = .val .bool q) → E.P.underlying t = some .bool)
    (h : (binF op (opA st.g x) (opA st.g y)).K Q) : Yields E C st a w I rt fp o Q := by
  have hx := hR.opA x
  have hy := hR.opA y
  unfold binF at h
  split at h
  · rename_i k m k' n ex ey
    rw [ex] at hx; rw [ey] at hy
    obtain ⟨v, hv⟩ : ∃ v, v = a.eval x := ⟨_, rfl⟩
    obtain ⟨u', hu⟩ : ∃ v, v = a.eval y := ⟨_, rfl⟩
    rw [← hv] at hx; rw [← hu] at hy
    cases hx with | val r1 => cases hy with | val r2 =>
    obtain ⟨_, rfl⟩ := r1
    obtain ⟨_, rfl⟩ := r2
    exact binI_sound ho hv.symm hu.symm h
  · rename_i p q ex ey
    have hu := hb p q
    have hxy : opA st.g x = .val .bool p ∧ opA st.g y = .val .bool q := ⟨ex, ey⟩
    rw [ex] at hx; rw [ey] at hy
    obtain ⟨v, hv⟩ : ∃ v, v = a.eval x := ⟨_, rfl⟩
    obtain ⟨u', hu'⟩ : ∃ v, v = a.eval y := ⟨_, rfl⟩
    rw [← hv] at hx; rw [← hu'] at hy
    cases hx with | val r1 => cases hy with | val r2 =>
    obtain ⟨_, rfl⟩ := r1
    obtain ⟨_, rfl⟩ := r2
    have hv' : a.eval x = .bool p := hv.symm
    have hu2 : a.eval y = .bool q := hu'.symm
    have hg : ∀ w, (eqGuard op t x y (.bool p) (.bool q)).run E.P w = .ok () w := fun w => by
      unfold eqGuard
      cases op <;> simp
    split at h
    · have := hu (.inl rfl) hxy
      exact .pure (v := .bool _) (by simp only [execOp, ho, hv', hu2, Sem.run_bind, hg, Result.andThen_ok, run_eql_bool _ _ _ this]; rfl) (.bool _) h
    · have := hu (.inr rfl) hxy
      exact .pure (v := .bool _) (by simp only [execOp, ho, hv', hu2, Sem.run_bind, hg, Result.andThen_ok, run_neq_bool _ _ _ this]; rfl) (.bool _) h
    · exact h.elim
  · exact h.elim
end
end Go.Fw
