/-
  The framework, part 6: reads of slices, structs and pointers.
-/
import Derived.Test.YtlalecmgnaoiiaaFw5
namespace Go.Fw

theorem GetP.z {τ : Ty} {x : τ.den} : GetP τ x [] τ x := GetP.nil_iff.2 ⟨rfl, rfl⟩
theorem GetP.i {t : Ty} {xs : List t.den} {i : Nat} {e : t.den} {p : List Step} {τ' : Ty} {y : τ'.den} (h : xs[i]? = some e) (g : GetP t e p τ' y) : GetP (.osl t) xs (.idx i :: p) τ' y := ⟨e, h, g⟩
theorem GetP.d {t : Ty} {x : t.den} {p : List Step} {τ' : Ty} {y : τ'.den} (g : GetP t x p τ' y) : GetP (.optr t) x (.deref :: p) τ' y := g
theorem GetP.u {t : Ty} {x : t.den} {p : List Step} {τ' : Ty} {y : τ'.den} (g : GetP t x p τ' y) : GetP (.st t) x (.unst :: p) τ' y := g
theorem GetP.f {a b : Ty} {x : a.den} {x2 : b.den} {p : List Step} {τ' : Ty} {y : τ'.den} (g : GetP a x p τ' y) : GetP (.pr a b) (x, x2) (.fst :: p) τ' y := g
theorem GetP.s {a b : Ty} {x : a.den} {x2 : b.den} {p : List Step} {τ' : Ty} {y : τ'.den} (g : GetP b x2 p τ' y) : GetP (.pr a b) (x, x2) (.snd :: p) τ' y := g
theorem SetP.z {τ : Ty} {x y : τ.den} : SetP τ x [] τ y y := SetP.nil_iff.2 ⟨rfl, rfl⟩
theorem SetP.i {t : Ty} {xs : List t.den} {i : Nat} {e e' : t.den} {p : List Step} {τ' : Ty} {y : τ'.den} (h : xs[i]? = some e) (g : SetP t e p τ' y e') : SetP (.osl t) xs (.idx i :: p) τ' y (xs.set i e') := ⟨e, e', h, g, rfl⟩
theorem SetP.d {t : Ty} {x x' : t.den} {p : List Step} {τ' : Ty} {y : τ'.den} (g : SetP t x p τ' y x') : SetP (.optr t) x (.deref :: p) τ' y x' := g
theorem SetP.u {t : Ty} {x x' : t.den} {p : List Step} {τ' : Ty} {y : τ'.den} (g : SetP t x p τ' y x') : SetP (.st t) x (.unst :: p) τ' y x' := g
theorem SetP.f {a b : Ty} {x e' : a.den} {x2 : b.den} {p : List Step} {τ' : Ty} {y : τ'.den} (g : SetP a x p τ' y e') : SetP (.pr a b) (x, x2) (.fst :: p) τ' y (e', x2) := ⟨e', g, rfl⟩
theorem SetP.s {a b : Ty} {x : a.den} {x2 e' : b.den} {p : List Step} {τ' : Ty} {y : τ'.den} (g : SetP b x2 p τ' y e') : SetP (.pr a b) (x, x2) (.snd :: p) τ' y (x, e') := ⟨e', g, rfl⟩

section
variable {E : Env} {C : Ctx} {st : St} {a : Act} {w : World} {I : Nat → Prop} {rt : Nat → List Value} {fp : Nat → List Nat} {o : Oper} {Q : AV → List (Nat × Tree) → Prop}

theorem RelAt.notM {tm : Array Value} (hR : RelAt C st tm w I rt fp) {id : Nat} {t : Tree} (ht : lk st.h id = some t) : ∀ b ∈ fp id, ∀ m, ¬ md I C.B m b := fun b hb m hm => by
  have := (hR.tree id t ht).2.2 b hb
  rcases md_or hm with h | h
  · exact this.1 h
  · exact this.2.1 h

/-- What stands at a path of a tree, on the machine. -/
theorem RelAt.getP {tm : Array Value} (hR : RelAt C st tm w I rt fp) {id : Nat} {t : Tree} (ht : lk st.h id = some t) {p : List Step} {τ : Ty} {y : τ.den} (hg : GetP t.1 t.2 p τ y) {τ' : Ty} {loc : Loc} {cs : List Value}
    (hn : Nav w t.1 none (rt id) p τ' loc cs) : ∃ _e : τ' = τ, ∃ f, Rep (md I C.B) w τ cs y f ∧ LocOk w loc cs τ.size ∧ ∀ b ∈ f, b ∈ fp id := by
  obtain ⟨hr, hnd, _⟩ := hR.tree id t ht
  obtain ⟨loc', cs', f, rest, g1, g2, g3, g4, _⟩ := focus p (loc := none) hr (fun _ _ h => by cases h) hnd (fun _ _ h => by cases h) (hR.notM ht) hg
  obtain ⟨rfl, rfl, rfl⟩ := hn.det g1
  exact ⟨rfl, f, g2, g3, fun b hb => g4.mem_iff.2 (by simp [hb])⟩

theorem RelAt.rootLen {tm : Array Value} (hR : RelAt C st tm w I rt fp) {id : Nat} {t : Tree} (ht : lk st.h id = some t) {p : List Step} {τ' : Ty} {loc : Loc} {cs : List Value}
    (hn : Nav w t.1 none (rt id) p τ' loc cs) : cs.length = τ'.size ∧ ∀ b o, loc = some (b, o) → At w b o cs := hn.at (hR.tree id t ht).1.len (fun _ _ h => by cases h)

/-- Behind an owned pointer there is something: the tree says so also where nothing is asked of what stands there. -/
theorem navOptr {M : Md → Nat → Prop} : ∀ {p : List Step} {τ : Ty} {l : Loc} {cs : List Value} {x : τ.den} {f : List Nat} {t : Ty} {l' : Loc} {cs' : List Value}, Rep M w τ cs x f → Nav w τ l cs p (.optr t) l' cs' →
    ∃ b o ds, cs' = [.pointer (some ⟨b, o, none⟩)] ∧ ds.length = t.size ∧ At w b o ds
  | [], τ, _, _, _, _, _, _, _, hr, hn => by
      obtain ⟨rfl, rfl, rfl⟩ := Nav.nil_iff.1 hn
      obtain ⟨b, o, f, ds, h1, _, h3, h4, _⟩ := hr
      exact ⟨b, o, ds, h1, h3, h4⟩
  | s :: p, τ, _, cs, x, f, _, _, _, hr, hn => by
      cases τ <;> cases s <;> simp only [Nav] at hn
      case osl.idx t i =>
        obtain ⟨b, o, len, cap, ds, rfl, h2, h3, h4, h5⟩ := hn
        obtain ⟨ad, cap', e, hr⟩ := hr
        simp only [List.cons.injEq, Value.slice.injEq, and_true] at e
        obtain ⟨rfl, rfl, rfl⟩ := e
        rcases hr with ⟨h0, _⟩ | ⟨b', o', fps, h0, _, q1, q2, q3, q4⟩
        · cases h0
        cases h0
        obtain ⟨ds', d1, d2, d3⟩ := q4 i x[i] (fps[i]'(by omega)) (by simp) (by simp)
        obtain rfl := h4.eq d2 (by omega)
        exact navOptr (p := p) d3 h5
      case optr.deref t =>
        obtain ⟨b, o, ds, rfl, h3, h4, h5⟩ := hn
        obtain ⟨b', o', f, ds', e, _, h3', h4', _, h6⟩ := hr
        simp only [List.cons.injEq, Value.pointer.injEq, Option.some.injEq, Addr.mk.injEq, and_true] at e
        obtain ⟨rfl, rfl⟩ := e
        obtain rfl := h4.eq h4' (by omega)
        exact navOptr (p := p) h6 h5
      case st.unst t => exact navOptr (p := p) (τ := t) hr hn
      case pr.fst t1 t2 => obtain ⟨f1, f2, _, h1, _⟩ := hr; exact navOptr (p := p) (τ := t1) h1 hn
      case pr.snd t1 t2 => obtain ⟨f1, f2, _, _, h2⟩ := hr; exact navOptr (p := p) (τ := t2) h2 hn

def isSlcT (tt : List (TypeId × Ty)) (T : TypeId) : Option Ty := match lk tt T with | some (.slc _ t) => some t | _ => none
def isStT (tt : List (TypeId × Ty)) (T : TypeId) : Option Ty := match lk tt T with | some (.st t) => some t | _ => none

theorem isSlcT.ok {T : TypeId} {t : Ty} (h : isSlcT E.tt T = some t) : ∃ i S, E.P.info? T = some i ∧ E.P.underlying T = some (.slice S) ∧ TyF E.P t S := by
  unfold isSlcT at h
  split at h
  · rename_i m u hl
    cases h
    obtain ⟨i, S, h1, _, _, _, h5, h6⟩ := E.ok T _ hl
    exact ⟨i, S, h1, h5, h6⟩
  · cases h
theorem isStT.ok {T : TypeId} {t : Ty} (h : isStT E.tt T = some t) : ∃ fs zs, E.P.underlying T = some (.struct fs) ∧ FldF E.P t fs.toList 0 zs := by
  unfold isStT at h
  split at h
  · rename_i u hl
    cases h
    obtain ⟨_, i, fs, zs, h1, _, _, _, h5, h6, _⟩ := E.ok T _ hl
    exact ⟨fs, zs.toList, h5, h6⟩
  · cases h

/-- The list that an abstract slice in memory of its own has. -/
def lenF (tt : List (TypeId × Ty)) (h : List (Nat × Tree)) (T : TypeId) (x : AV) : Res :=
  match isSlcT tt T with
  | none => .bad
  | some _ => match x with
    | .val (.slc _ _) xs => .tot (.val (.int .i64) (xs.length : Int)) []
    | .cv (.slice none 0 0) => .tot (.val (.int .i64) (0 : Int)) []
    | .ref id p => match lk h id with
      | some ⟨τ, x⟩ => match tyAt τ p with
        | some (.osl t) => .part (List t.den) (fun xs => GetP τ x p (.osl t) xs) (fun xs => (.val (.int .i64) (xs.length : Int), []))
        | _ => .bad
      | none => .bad
    | .view _ _ lo hi => .tot (.val (.int .i64) ((hi - lo : Nat) : Int)) []
    | .app id p τ ys _ => match lk h id with
      | some ⟨τ0, x⟩ => .part (List τ.den) (fun xs => GetP τ0 x p (.osl τ) xs) (fun xs => (.val (.int .i64) ((xs.length + ys.length : Nat) : Int), []))
      | none => .bad
    | _ => .bad

theorem len_run {T : TypeId} {t : Ty} (hT : isSlcT E.tt T = some t) {x : Operand} (ho : o.op = .call { callee := .builtin .len, args := #[x], argTypes := #[T] }) {ad : Option Addr} {n c : Nat} (hx : a.eval x = .slice ad n c) :
    (execOp a.eval o).run E.P w = .ok (.value (.int .i64 n)) w := by
  obtain ⟨i, S, _, h5, _⟩ := isSlcT.ok hT
  simp [execOp, ho, resolve, invoke, builtin, hx, Builtin.len_, run_underlying h5, goInt]

theorem lenF_sound (hR : RelAt C st a.tmps w I rt fp) {T : TypeId} {x : Operand} (ho : o.op = .call { callee := .builtin .len, args := #[x], argTypes := #[T] }) (h : (lenF E.tt st.h T (opA st.g x)).K Q) :
    Yields E C st a w I rt fp o Q := by
  have hx := hR.opA x
  unfold lenF at h
  split at h
  · exact h.elim
  rename_i t hT
  generalize hv : a.eval x = v at hx
  split at h
  · rename_i m u xs ex
    rw [ex] at hx
    cases hx with | val r =>
    obtain ⟨_, ad, cap, rfl, _⟩ := r
    exact .pure (len_run hT ho hv) (.int _ _) h
  · rename_i ex
    rw [ex] at hx
    cases hx
    exact .pure (len_run hT ho hv) (.int _ _) h
  · rename_i id p ex
    rw [ex] at hx
    split at h
    · rename_i τ y ht
      split at h
      · rename_i u hty
        obtain ⟨xs, hg, h⟩ := h
        cases hx with | ref ht' hn =>
        rw [ht] at ht'; cases ht'
        obtain ⟨rfl, f, hr, _⟩ := hR.getP ht hg hn
        obtain ⟨ad, cap, rfl, _⟩ := hr
        exact .pure (len_run hT ho hv) (.int _ _) h
      · exact h.elim
    · exact h.elim
  · rename_i id p lo hi ex
    rw [ex] at hx
    cases hx with | view ht' hn =>
    exact .pure (len_run hT ho hv) (.int _ _) h
  · rename_i id p τ ys own ex
    rw [ex] at hx
    split at h
    · rename_i τ0 y ht
      obtain ⟨xs, hg, h⟩ := h
      cases hx with | app ht' hnb hn hg' h1 hf1 h2 =>
      rw [ht] at ht'; cases ht'
      obtain ⟨ad, cap, e, _⟩ := h2
      simp only [List.cons.injEq, and_true] at e
      have hq := GetP.uniq hg hg'
      subst hq
      rw [e] at hv
      have := len_run (w := w) hT ho hv
      rw [List.length_append] at this
      exact .pure this (.int _ _) h
    · exact h.elim
  · exact h.elim

theorem Nav.idx1 {t : Ty} {l : Loc} {b o len cap k : Nat} {ds : List Value} (h1 : k < len) (h2 : ds.length = t.size) (h3 : At w b (o + k * t.size) ds) :
    Nav w (.osl t) l [.slice (some ⟨b, o, none⟩) len cap] [.idx k] t (some (b, o + k * t.size)) ds := ⟨b, o, len, cap, ds, rfl, h1, h2, h3, Nav.here⟩
theorem Nav.deref1 {t : Ty} {l : Loc} {b o : Nat} {ds : List Value} (h2 : ds.length = t.size) (h3 : At w b o ds) :
    Nav w (.optr t) l [.pointer (some ⟨b, o, none⟩)] [.deref] t (some (b, o)) ds := ⟨b, o, ds, rfl, h2, h3, Nav.here⟩

/-- The address of an element. -/
def idxF (tt : List (TypeId × Ty)) (h : List (Nat × Tree)) (T : TypeId) (x i : AV) : Res :=
  match isSlcT tt T with
  | none => .bad
  | some u => match i with
    | .val (.int _) i => match x with
      | .val (.slc m t) xs => bif sameLay u t then .part t.den (fun y => getI xs i = some y) (fun y => (.val (.ptr m t) (some y), [])) else .bad
      | .ref id p => match lk h id with
        | some ⟨τ, x⟩ => match tyAt τ p with
          | some (.osl t) => bif sameLay u t then .part (List t.den × Nat) (fun q => GetP τ x p (.osl t) q.1 ∧ i = (q.2 : Int) ∧ q.2 < q.1.length) (fun q => (.addr id (p ++ [.idx q.2]), [])) else .bad
          | _ => .bad
        | none => .bad
      | .view id p lo hi => match lk h id with
        | some ⟨τ, x⟩ => match tyAt τ p with
          | some (.osl t) => bif sameLay u t then .part (List t.den × Nat) (fun q => GetP τ x p (.osl t) q.1 ∧ i = (q.2 : Int) ∧ q.2 < hi - lo) (fun q => (.addr id (p ++ [.idx (lo + q.2)]), [])) else .bad
          | _ => .bad
        | none => .bad
      | _ => .bad
    | _ => .bad

theorem idx_run {T : TypeId} {u t : Ty} (hT : isSlcT E.tt T = some u) (hl : sameLay u t = true) {x i : Operand} (ho : o.op = .indexAddr T x i) {b off len cap k : Nat} {ik : IntKind} (hx : a.eval x = .slice (some ⟨b, off, none⟩) len cap)
    (hi : a.eval i = .int ik k) (hk : k < len) : (execOp a.eval o).run E.P w = .ok (.value (.pointer (some ⟨b, off + k * t.size, none⟩))) w := by
  obtain ⟨j, S, _, h5, h6⟩ := isSlcT.ok hT
  have hs := (h6.lay hl).sizeOf w
  have : (0 : Int) ≤ (k : Int) ∧ (k : Int) < (len : Int) := ⟨by omega, by omega⟩
  simp [execOp, ho, hx, hi, Instr.indexAt, asIntOf, run_underlying h5, this, hs, Addr.add_lit]
  intro h0; omega

theorem idxF_sound (hR : RelAt C st a.tmps w I rt fp) {T : TypeId} {x i : Operand} (ho : o.op = .indexAddr T x i) (h : (idxF E.tt st.h T (opA st.g x) (opA st.g i)).K Q) :
    Yields E C st a w I rt fp o Q := by
  have hx := hR.opA x
  have hi := hR.opA i
  unfold idxF at h
  split at h
  · exact h.elim
  rename_i u hT
  generalize hv : a.eval x = v at hx
  generalize hvi : a.eval i = vi at hi
  split at h
  case h_2 => exact h.elim
  rename_i ik n ei
  rw [ei] at hi
  cases hi with | val r =>
  obtain ⟨_, rfl⟩ := r
  split at h
  · rename_i m t xs ex
    cases hl : sameLay u t with
    | false => rw [hl] at h; exact h.elim
    | true =>
      rw [hl] at h
      obtain ⟨y, hy, h⟩ := h
      rw [ex] at hx
      cases hx with | val r =>
      obtain ⟨_, ad, cap, rfl, q1, q2, q3⟩ := r
      obtain ⟨e1, e2, e3⟩ := getI_some hy
      rcases q3 with rfl | ⟨b, off, rfl, hM, q4⟩
      · simp at e2
      obtain ⟨ds, d1, d2, d3⟩ := q4 _ _ e3
      have hvi' : a.eval i = .int ik (n.toNat : Nat) := by rw [hvi]; show Value.int ik n = _; rw [← e1]
      exact .pure (idx_run hT hl ho hv hvi' e2) (.val (τ := .ptr m t) (x := some y) (cs := [.pointer (some ⟨b, off + n.toNat * t.size, none⟩)]) ⟨rfl, b, _, ds, rfl, hM, d1, d2, d3⟩) h
  · rename_i id p ex
    split at h
    case h_2 => exact h.elim
    rename_i τ y ht
    split at h
    case h_2 => exact h.elim
    rename_i t hty
    cases hl : sameLay u t with
    | false => rw [hl] at h; exact h.elim
    | true =>
      rw [hl] at h
      obtain ⟨⟨xs, k⟩, ⟨hg, rfl, hk⟩, h⟩ := h
      simp only at hg hk h
      rw [ex] at hx
      cases hx with | ref ht' hn =>
      rw [ht] at ht'; cases ht'
      obtain ⟨rfl, f, hr, _⟩ := hR.getP ht hg hn
      obtain ⟨ad, cap, rfl, hr⟩ := hr
      rcases hr with ⟨_, rfl, _⟩ | ⟨b, off, fps, rfl, _, q1, q2, q3, q4⟩
      · simp at hk
      obtain ⟨ds, d1, d2, d3⟩ := q4 k xs[k] (fps[k]'(by omega)) (by simp) (by simp)
      exact .pure (idx_run hT hl ho hv hvi hk) (.addr ht (hn.append (Nav.idx1 hk d1 d2))) h
  · rename_i id p lo hi' ex
    split at h
    case h_2 => exact h.elim
    rename_i τ y ht
    split at h
    case h_2 => exact h.elim
    rename_i t hty
    cases hl : sameLay u t with
    | false => rw [hl] at h; exact h.elim
    | true =>
      rw [hl] at h
      obtain ⟨⟨xs, k⟩, ⟨hg, rfl, hk⟩, h⟩ := h
      simp only at hg hk h
      rw [ex] at hx
      cases hx with | view ht' hn l1 l2 l3 =>
      rename_i b off len cap
      rw [ht] at ht'; cases ht'
      obtain ⟨e, f, hr, _⟩ := hR.getP ht hg hn
      cases e
      obtain ⟨ad, cap', hh, hr⟩ := hr
      simp only [List.cons.injEq, Value.slice.injEq, and_true] at hh
      obtain ⟨rfl, rfl, rfl⟩ := hh
      rcases hr with ⟨h0, _⟩ | ⟨b', off', fps, h0, _, q1, q2, q3, q4⟩
      · cases h0
      cases h0
      have hlk : lo + k < xs.length := by omega
      obtain ⟨ds, d1, d2, d3⟩ := q4 (lo + k) xs[lo + k] (fps[lo + k]'(by omega)) (by simp) (by simp)
      have := idx_run (w := w) hT hl ho hv hvi hk
      rw [if_neg (by omega), show off + lo * t.size + k * t.size = off + (lo + k) * t.size by rw [Nat.add_mul]; omega] at this
      exact .pure this (.addr ht (hn.append (Nav.idx1 hlk d1 d2))) h
  · exact h.elim

theorem Rep.pure {M : Md → Nat → Prop} {w : World} : ∀ {τ : Ty} {cs : List Value} {x : τ.den} {f : List Nat}, τ.pure = true → Rep M w τ cs x f → f = []
  | .int _, _, _, _, _, h => h.1
  | .bool, _, _, _, _, h => h.1
  | .str, _, _, _, _, h => h.1
  | .slc _ _, _, _, _, _, h => h.1
  | .ptr _ _, _, _, _, _, h => h.1
  | .nil, _, _, _, _, h => h.1
  | .st t, _, _, _, hp, h => Rep.pure (τ := t) hp h
  | .pr a b, _, _, _, hp, h => by
      simp only [Ty.pure, Bool.and_eq_true] at hp
      obtain ⟨f1, f2, rfl, h1, h2⟩ := h
      rw [Rep.pure (τ := a) hp.1 h1, Rep.pure (τ := b) hp.2 h2]; rfl
  | .osl _, _, _, _, hp, _ => by cases hp
  | .optr _, _, _, _, hp, _ => by cases hp
  | .blk, _, _, _, hp, _ => by cases hp

/-- What is read at a place of a tree: a value, or the place itself where what stands there is owned. -/
def readF (τ : Ty) (x : τ.den) (id : Nat) (p : List Step) (t : Ty) : Res :=
  bif t.pure then .part t.den (fun y => GetP τ x p t y) (fun y => (.val t y, [])) else .tot (.ref id p) []

/-- A load. -/
def loadF (tt : List (TypeId × Ty)) (h : List (Nat × Tree)) (T : TypeId) (x : AV) : Res :=
  match lk tt T with
  | none => .bad
  | some u => match x with
    | .val (.ptr _ t) (some y) => bif sameLay u t then .tot (.val t y) [] else .bad
    | .addr id p => match lk h id with
      | some ⟨τ, x⟩ => match tyAt τ p with
        | some t => bif sameLay u t then readF τ x id p t else .bad
        | none => .bad
      | none => .bad
    | .ref id p => match lk h id with
      | some ⟨τ, x⟩ => match tyAt τ p with
        | some (.optr t) => bif sameLay u t then readF τ x id (p ++ [.deref]) t else .bad
        | _ => .bad
      | none => .bad
    | _ => .bad

theorem load_run {T : TypeId} {u t : Ty} (hT : lk E.tt T = some u) (hl : sameLay u t = true) {x : Operand} (ho : o.op = .load T x) {b off : Nat} {cs : List Value} (hx : a.eval x = .pointer (some ⟨b, off, none⟩)) (ha : At w b off cs) (hc : cs.length = t.size) :
    (execOp a.eval o).run E.P w = .ok (.value (regV t cs)) w := by
  have := run_loadVar ((E.ok T u hT).lay hl) ha hc
  simp [execOp, ho, hx, Instr.loadAt, Instr.sureAddr, this]

theorem readF_sound (hR : RelAt C st a.tmps w I rt fp) {id : Nat} {τ : Ty} {x : τ.den} (ht : lk st.h id = some ⟨τ, x⟩) {p : List Step} {t : Ty} {loc : Loc} {cs : List Value} (hn : Nav w τ none (rt id) p t loc cs)
    (hr : (execOp a.eval o).run E.P w = .ok (.value (regV t cs)) w) (h : (readF τ x id p t).K Q) : Yields E C st a w I rt fp o Q := by
  unfold readF at h
  cases hp : t.pure with
  | true =>
    rw [hp] at h
    obtain ⟨y, hg, h⟩ := h
    obtain ⟨_, f, hrep, _⟩ := hR.getP ht hg hn
    have := hrep.pure hp
    subst this
    exact .pure hr (.val hrep) h
  | false =>
    rw [hp] at h
    exact .pure hr (.ref ht hn) h

theorem loadF_sound (hR : RelAt C st a.tmps w I rt fp) {T : TypeId} {x : Operand} (ho : o.op = .load T x) (h : (loadF E.tt st.h T (opA st.g x)).K Q) : Yields E C st a w I rt fp o Q := by
  have hx := hR.opA x
  unfold loadF at h
  split at h
  · exact h.elim
  rename_i u hT
  generalize hv : a.eval x = v at hx
  split at h
  · rename_i m t y ex
    cases hl : sameLay u t with
    | false => rw [hl] at h; exact h.elim
    | true =>
      rw [hl] at h
      rw [ex] at hx
      cases hx with | val r =>
      obtain ⟨_, b, off, ds, rfl, q1, q2, q3, q4⟩ := r
      exact .pure (load_run hT hl ho hv q3 q2) (.val q4) h
  · rename_i id p ex
    split at h
    case h_2 => exact h.elim
    rename_i τ y ht
    split at h
    case h_2 => exact h.elim
    rename_i t hty
    cases hl : sameLay u t with
    | false => rw [hl] at h; exact h.elim
    | true =>
      rw [hl] at h
      rw [ex] at hx
      cases hx with | addr ht' hn =>
      rw [ht] at ht'; cases ht'
      have := hn.ty
      rw [hty] at this; cases this
      obtain ⟨q1, q2⟩ := hR.rootLen ht hn
      exact readF_sound hR ht hn (load_run hT hl ho hv (q2 _ _ rfl) q1) h
  · rename_i id p ex
    split at h
    case h_2 => exact h.elim
    rename_i τ y ht
    split at h
    case h_2 => exact h.elim
    rename_i t hty
    cases hl : sameLay u t with
    | false => rw [hl] at h; exact h.elim
    | true =>
      rw [hl] at h
      rw [ex] at hx
      cases hx with | ref ht' hn =>
      rename_i τ' loc cs
      rw [ht] at ht'; cases ht'
      have := hn.ty
      rw [hty] at this; cases this
      obtain ⟨b, off, ds, rfl, d1, d2⟩ := navOptr (hR.tree id _ ht).1 hn
      exact readF_sound hR ht (hn.append (Nav.deref1 d1 d2)) (load_run hT hl ho hv d2 d1) h
  · exact h.elim

/-- The address of a field. -/
def fldAF (tt : List (TypeId × Ty)) (h : List (Nat × Tree)) (T : TypeId) (x : AV) (n : Nat) : Res :=
  match isStT tt T with
  | none => .bad
  | some u => match x with
    | .val (.ptr m (.st t)) (some y) => bif sameLay u t then match fldV t y n with
        | some ⟨tf, yf⟩ => .tot (.val (.ptr m tf) (some yf)) []
        | none => .bad
      else .bad
    | .ref id p => match lk h id with
      | some ⟨τ, _⟩ => match tyAt τ p with
        | some (.optr (.st t)) => bif sameLay u t then match fldSteps t n with
            | some (s, _) => .tot (.addr id (p ++ (.deref :: .unst :: s))) []
            | none => .bad
          else .bad
        | _ => .bad
      | none => .bad
    | .addr id p => match lk h id with
      | some ⟨τ, _⟩ => match tyAt τ p with
        | some (.st t) => bif sameLay u t then match fldSteps t n with
            | some (s, _) => .tot (.addr id (p ++ (.unst :: s))) []
            | none => .bad
          else .bad
        | _ => .bad
      | none => .bad
    | _ => .bad

theorem fldA_run {T : TypeId} {u t : Ty} (hT : isStT E.tt T = some u) (hl : sameLay u t = true) {n : Nat} {s : List Step} {tf : Ty} (hs : fldSteps t n = some (s, tf)) {x : Operand} (ho : o.op = .fieldAddr T x n) {b off : Nat}
    (hx : a.eval x = .pointer (some ⟨b, off, none⟩)) : (execOp a.eval o).run E.P w = .ok (.value (.pointer (some ⟨b, off + fldOff t n, none⟩))) w := by
  obtain ⟨fs, zs, h5, h6⟩ := isStT.ok hT
  obtain ⟨f, hf, ho', hf2⟩ := fldF_get (FldF.lay hl h6) hs
  have hz : tf.size ≠ 0 := by have := hf2.pos; omega
  have hf' : fs[n]? = some f := by simpa using hf
  simp [execOp, ho, hx, Instr.fieldAt, run_underlying h5, hf', Instr.sureAddr, fieldPlace, hf2.sizeOf, hz, Addr.add_lit, ho']

theorem fldAF_sound (hR : RelAt C st a.tmps w I rt fp) {T : TypeId} {x : Operand} {n : Nat} (ho : o.op = .fieldAddr T x n) (h : (fldAF E.tt st.h T (opA st.g x) n).K Q) : Yields E C st a w I rt fp o Q := by
  have hx := hR.opA x
  unfold fldAF at h
  split at h
  · exact h.elim
  rename_i u hT
  generalize hv : a.eval x = v at hx
  split at h
  · rename_i m t y ex
    cases hl : sameLay u t with
    | false => rw [hl] at h; exact h.elim
    | true =>
      rw [hl] at h
      simp only [cond_true] at h
      split at h
      case h_2 => exact h.elim
      rename_i tf yf hf
      rw [ex] at hx
      cases hx with | val r =>
      obtain ⟨_, b, off, ds, rfl, q1, q2, q3, q4⟩ := r
      obtain ⟨s, hs⟩ := fldV_steps hf
      obtain ⟨r1, r2⟩ := fldV_rep (τ := t) q4 hf
      have l1 := q4.len
      simp only [Ty.size] at l1 r1 r2
      exact .pure (fldA_run hT hl hs ho hv) (.val (τ := .ptr m tf) (x := some yf) (cs := [.pointer (some ⟨b, off + fldOff t n, none⟩)]) ⟨rfl, b, _, _, rfl, q1, by simp; omega, q3.drop.take, r1⟩) h
  · rename_i id p ex
    split at h
    case h_2 => exact h.elim
    rename_i τ y ht
    split at h
    case h_2 => exact h.elim
    rename_i t hty
    cases hl : sameLay u t with
    | false => rw [hl] at h; exact h.elim
    | true =>
      rw [hl] at h
      simp only [cond_true] at h
      split at h
      case h_2 => exact h.elim
      rename_i s tf hs
      rw [ex] at hx
      cases hx with | ref ht' hn =>
      rw [ht] at ht'; cases ht'
      have := hn.ty
      rw [hty] at this; cases this
      obtain ⟨b, off, ds, rfl, d1, d2⟩ := navOptr (hR.tree id _ ht).1 hn
      rename_i loc
      have q : Nav w (.optr (.st t)) loc [.pointer (some ⟨b, off, none⟩)] (.deref :: .unst :: s) tf (some (b, off + fldOff t n)) ((ds.drop (fldOff t n)).take tf.size) := ⟨b, off, ds, rfl, d1, d2, Nav.fld (l := some (b, off)) hs⟩
      exact .pure (fldA_run hT hl hs ho hv) (.addr ht (hn.append q)) h
  · rename_i id p ex
    split at h
    case h_2 => exact h.elim
    rename_i τ y ht
    split at h
    case h_2 => exact h.elim
    rename_i t hty
    cases hl : sameLay u t with
    | false => rw [hl] at h; exact h.elim
    | true =>
      rw [hl] at h
      simp only [cond_true] at h
      split at h
      case h_2 => exact h.elim
      rename_i s tf hs
      rw [ex] at hx
      cases hx with | addr ht' hn =>
      rw [ht] at ht'; cases ht'
      have := hn.ty
      rw [hty] at this; cases this
      rename_i b off cs
      have q : Nav w (.st t) (some (b, off)) cs (.unst :: s) tf (some (b, off + fldOff t n)) ((cs.drop (fldOff t n)).take tf.size) := Nav.fld (l := some (b, off)) hs
      exact .pure (fldA_run hT hl hs ho hv) (.addr ht (hn.append q)) h
  · exact h.elim

/-- A field of a struct by value. -/
def fldF (tt : List (TypeId × Ty)) (h : List (Nat × Tree)) (T : TypeId) (x : AV) (n : Nat) : Res :=
  match isStT tt T with
  | none => .bad
  | some u => match x with
    | .val (.st t) y => bif sameLay u t then match fldV t y n with
        | some ⟨tf, yf⟩ => .tot (.val tf yf) []
        | none => .bad
      else .bad
    | .ref id p => match lk h id with
      | some ⟨τ, x⟩ => match tyAt τ p with
        | some (.st t) => bif sameLay u t then match fldSteps t n with
            | some (s, tf) => readF τ x id (p ++ (.unst :: s)) tf
            | none => .bad
          else .bad
        | _ => .bad
      | none => .bad
    | _ => .bad

theorem fld_run {T : TypeId} {u t : Ty} (hT : isStT E.tt T = some u) (hl : sameLay u t = true) {n : Nat} {s : List Step} {tf : Ty} (hs : fldSteps t n = some (s, tf)) {x : Operand} (ho : o.op = .field T x n) {cs : List Value}
    (hx : a.eval x = regV (.st t) cs) (hc : fldOff t n + tf.size ≤ cs.length) : (execOp a.eval o).run E.P w = .ok (.value (regV tf ((cs.drop (fldOff t n)).take tf.size))) w := by
  obtain ⟨fs, zs, h5, h6⟩ := isStT.ok hT
  obtain ⟨f, hf, ho', hf2⟩ := fldF_get (FldF.lay hl h6) hs
  have hz := hf2.pos
  have hf' : fs[n]? = some f := by simpa using hf
  simp only [Nat.zero_add] at ho'
  have hx' : a.eval x = .agg cs.toArray := hx
  have key : (part f.type cs.toArray f.offset).run E.P w = .ok (regV tf ((cs.drop (fldOff t n)).take tf.size)) w := by
    simp only [part, Sem.run_bind, hf2.isAgg, Result.andThen_ok, ho']
    cases hq : isSt tf with
    | true =>
      rw [regV_of_st hq]
      simp only [if_true, Sem.run_bind, hf2.sizeOf, Result.andThen_ok, Sem.run_pure]
      congr 2
      apply Array.ext'
      rw [Array.toList_extract, List.extract_eq_take_drop, Nat.add_sub_cancel_left]
    | false =>
      have h1 := one_of_not_st hf2 hq
      rw [regV_of_not_st hq, h1]
      have hlt : fldOff t n < cs.length := by omega
      have : (cs.drop (fldOff t n)).take 1 = [cs[fldOff t n]] := by
        rw [List.drop_eq_getElem_cons hlt]; rfl
      rw [this]
      simp [hlt]
  simp [execOp, ho, hx', Instr.field, run_underlying h5, hf', asAgg, key]

theorem fldF_sound (hR : RelAt C st a.tmps w I rt fp) {T : TypeId} {x : Operand} {n : Nat} (ho : o.op = .field T x n) (h : (fldF E.tt st.h T (opA st.g x) n).K Q) : Yields E C st a w I rt fp o Q := by
  have hx := hR.opA x
  unfold fldF at h
  split at h
  · exact h.elim
  rename_i u hT
  generalize hv : a.eval x = v at hx
  split at h
  · rename_i t y ex
    cases hl : sameLay u t with
    | false => rw [hl] at h; exact h.elim
    | true =>
      rw [hl] at h
      simp only [cond_true] at h
      split at h
      case h_2 => exact h.elim
      rename_i tf yf hf
      rw [ex] at hx
      cases hx with | val r =>
      obtain ⟨s, hs⟩ := fldV_steps hf
      obtain ⟨r1, r2⟩ := fldV_rep (τ := t) r hf
      have l1 := r.len
      simp only [Ty.size] at l1
      exact .pure (fld_run hT hl hs ho hv (by simp only at *; omega)) (.val r1) h
  · rename_i id p ex
    split at h
    case h_2 => exact h.elim
    rename_i τ y ht
    split at h
    case h_2 => exact h.elim
    rename_i t hty
    cases hl : sameLay u t with
    | false => rw [hl] at h; exact h.elim
    | true =>
      rw [hl] at h
      simp only [cond_true] at h
      split at h
      case h_2 => exact h.elim
      rename_i s tf hs
      rw [ex] at hx
      cases hx with | ref ht' hn =>
      rename_i τ' loc cs
      rw [ht] at ht'; cases ht'
      have := hn.ty
      rw [hty] at this; cases this
      obtain ⟨q1, q2⟩ := hR.rootLen ht hn
      have q : Nav w (.st t) loc cs (.unst :: s) tf (loc.map fun q => (q.1, q.2 + fldOff t n)) ((cs.drop (fldOff t n)).take tf.size) := Nav.fld hs
      exact readF_sound hR ht (hn.append q) (fld_run hT hl hs ho hv (by rw [q1]; exact fldSteps_le hs)) h
  · exact h.elim

/-- The check that a pointer is not nil. -/
def nilF (h : List (Nat × Tree)) (x : AV) : Res :=
  match x with
  | .val (.ptr m t) x => .part t.den (fun y => x = some y) (fun y => (.val (.ptr m t) (some y), []))
  | .ref id p => match lk h id with
    | some ⟨τ, _⟩ => match tyAt τ p with
      | some (.optr _) => .tot (.ref id p) []
      | _ => .bad
    | none => .bad
  | .addr id p => .tot (.addr id p) []
  | .clo f l => .tot (.clo f l) []
  | _ => .bad

theorem nilF_sound (hR : RelAt C st a.tmps w I rt fp) {x : Operand} (ho : o.op = .nilCheck x) (h : (nilF st.h (opA st.g x)).K Q) : Yields E C st a w I rt fp o Q := by
  have hx := hR.opA x
  unfold nilF at h
  generalize hv : a.eval x = v at hx
  split at h
  · rename_i m t y ex
    obtain ⟨y, rfl, h⟩ := h
    rw [ex] at hx
    cases hx with | val r =>
    obtain ⟨_, b, off, ds, rfl, q1, q2, q3, q4⟩ := r
    exact .pure (v := .pointer (some ⟨b, off, none⟩)) (by simp [execOp, ho, hv, regV]) (.val (τ := .ptr m t) (x := some y) (cs := [.pointer (some ⟨b, off, none⟩)]) ⟨rfl, b, off, ds, rfl, q1, q2, q3, q4⟩) h
  · rename_i id p ex
    split at h
    case h_2 => exact h.elim
    rename_i τ y ht
    split at h
    case h_2 => exact h.elim
    rename_i t hty
    rw [ex] at hx
    cases hx with | ref ht' hn =>
    rw [ht] at ht'; cases ht'
    have := hn.ty
    rw [hty] at this; cases this
    obtain ⟨b, off, ds, rfl, d1, d2⟩ := navOptr (hR.tree id _ ht).1 hn
    exact .pure (v := .pointer (some ⟨b, off, none⟩)) (by simp [execOp, ho, hv, regV]) (.ref (τ' := .optr t) ht hn) h
  · rename_i id p ex
    rw [ex] at hx
    cases hx with | addr ht hn =>
    exact .pure (by simp [execOp, ho, hv]) (.addr ht hn) h
  · rename_i f l ex
    rw [ex] at hx
    cases hx with | clo hl hh =>
    exact .pure (by simp [execOp, ho, hv]) (.clo hl hh) h
  · exact h.elim

/-- A bound of a slice expression. -/
def bndP (x : Option AV) (d k : Nat) : Prop :=
  match x with
  | none => k = d
  | some (.val (.int _) i) => i = (k : Int)
  | some _ => False

/-- A part of a slice. -/
def slcF (tt : List (TypeId × Ty)) (h : List (Nat × Tree)) (T : TypeId) (x : AV) (lo hi : Option AV) : Res :=
  match isSlcT tt T with
  | none => .bad
  | some u => match x with
    | .val (.slc m t) xs => bif sameLay u t then
        .part (Nat × Nat) (fun q => bndP lo 0 q.1 ∧ bndP hi xs.length q.2 ∧ q.1 ≤ q.2 ∧ q.2 ≤ xs.length) (fun q => (.val (.slc m t) ((xs.take q.2).drop q.1), [])) else .bad
    | .ref id p => match lk h id with
      | some ⟨τ, x⟩ => match tyAt τ p with
        | some (.osl t) => bif sameLay u t then
            .part (List t.den × Nat × Nat) (fun q => GetP τ x p (.osl t) q.1 ∧ bndP lo 0 q.2.1 ∧ bndP hi q.1.length q.2.2 ∧ q.2.1 ≤ q.2.2 ∧ q.2.2 ≤ q.1.length ∧ 0 < q.1.length) (fun q => (.view id p q.2.1 q.2.2, [])) else .bad
        | _ => .bad
      | none => .bad
    | _ => .bad

/-- A bound on the machine. -/
def bndV (a : Act) (x : Option Operand) (d k : Nat) : Prop :=
  match x with
  | none => k = d
  | some y => ∃ q, a.eval y = .int q k

theorem slc_run {T : TypeId} {u t : Ty} (hT : isSlcT E.tt T = some u) (hl : sameLay u t = true) {x : Operand} {lo hi : Option Operand} (ho : o.op = .slice T x lo hi none) {ad : Option Addr} {len cap l h : Nat} (hx : a.eval x = .slice ad len cap)
    (hlo : bndV a lo 0 l) (hhi : bndV a hi len h) (h1 : l ≤ h) (h2 : h ≤ cap) :
    (execOp a.eval o).run E.P w = .ok (.value (.slice (if cap = l then ad else ad.map (·.add (l * t.size))) (h - l) (cap - l))) w := by
  obtain ⟨j, S, _, h5, h6⟩ := isSlcT.ok hT
  have hs := (h6.lay hl).sizeOf w
  have e1 : (0 : Int) ≤ (h : Int) ∧ (h : Int) ≤ (cap : Int) := ⟨by omega, by omega⟩
  have e2 : (0 : Int) ≤ (l : Int) ∧ (l : Int) ≤ (h : Int) := ⟨by omega, by omega⟩
  have e3 : (Instr.sliceBounds true len cap (lo.map a.eval) (hi.map a.eval) none).run E.P w = .ok (l, h, cap) w := by
    cases lo with
    | none =>
      obtain rfl : l = 0 := hlo
      cases hi with
      | none => obtain rfl : h = len := hhi; simp [Instr.sliceBounds]
      | some y => obtain ⟨k, hk⟩ := hhi; simp [Instr.sliceBounds, Instr.sliceBound, hk, asIntOf, e1]; intro h0; omega
    | some z =>
      obtain ⟨k', hk'⟩ := hlo
      cases hi with
      | none => obtain rfl : h = len := hhi; simp [Instr.sliceBounds, Instr.sliceBound, hk', asIntOf, e2]; intro h0; omega
      | some y =>
        obtain ⟨k, hk⟩ := hhi
        have n1 : ¬ cap < h := by omega
        have n2 : ¬ h < l := by omega
        simp [Instr.sliceBounds, Instr.sliceBound, hk, hk', asIntOf, h1, h2]
  simp [execOp, ho, hx, Instr.sliceAt, Instr.slice, run_underlying h5, e3, hs]

theorem bnd_eval (hR : RelAt C st a.tmps w I rt fp) {x : Option Operand} {d k : Nat} (h : bndP (x.map (opA st.g)) d k) : bndV a x d k := by
  cases x with
  | none => exact h
  | some y =>
    have := hR.opA y
    simp only [Option.map_some, bndP] at h
    split at h
    · rename_i e; cases e
    · rename_i q i e
      simp only [Option.some.injEq] at e
      rw [e] at this
      subst h
      generalize hv : a.eval y = v at this
      cases this with | val r => obtain ⟨_, rfl⟩ := r; exact ⟨q, hv⟩
    · exact h.elim

theorem slcF_sound (hR : RelAt C st a.tmps w I rt fp) {T : TypeId} {x : Operand} {lo hi : Option Operand} (ho : o.op = .slice T x lo hi none) (h : (slcF E.tt st.h T (opA st.g x) (lo.map (opA st.g)) (hi.map (opA st.g))).K Q) :
    Yields E C st a w I rt fp o Q := by
  have hx := hR.opA x
  unfold slcF at h
  split at h
  · exact h.elim
  rename_i u hT
  generalize hv : a.eval x = v at hx
  split at h
  · rename_i m t xs ex
    cases hl : sameLay u t with
    | false => rw [hl] at h; exact h.elim
    | true =>
      rw [hl] at h
      obtain ⟨⟨l, k⟩, ⟨b1, b2, b3, b4⟩, h⟩ := h
      simp only at b1 b2 b3 b4 h
      rw [ex] at hx
      cases hx with | val r =>
      obtain ⟨_, ad, cap, rfl, q1, q2, q3⟩ := r
      have hrun := slc_run (w := w) hT hl ho hv (bnd_eval hR b1) (bnd_eval hR b2) b3 (by omega)
      have hlen : ((xs.take k).drop l).length = k - l := by simp; omega
      refine .pure hrun (.val (τ := .slc m t) (x := (xs.take k).drop l) (cs := [_]) ⟨rfl, _, cap - l, by rw [hlen], by omega, ?_, ?_⟩) h
      · intro h0
        by_cases hc : cap = l
        · omega
        · rw [if_neg hc] at h0
          cases ad with
          | none => have := q2 rfl; omega
          | some _ => cases h0
      · by_cases hkl : k = l
        · left; apply List.eq_nil_of_length_eq_zero; omega
        · right
          rcases q3 with rfl | ⟨b, off, rfl, hM, q4⟩
          · simp at b4; omega
          · refine ⟨b, off + l * t.size, by rw [if_neg (by omega)]; simp [Addr.add_lit], hM, fun i y hi => ?_⟩
            have hi' : xs[l + i]? = some y := by
              rw [List.getElem?_drop, List.getElem?_take] at hi
              split at hi
              · exact hi
              · cases hi
            obtain ⟨ds, d1, d2, d3⟩ := q4 _ _ hi'
            refine ⟨ds, d1, ?_, d3⟩
            rwa [show off + l * t.size + i * t.size = off + (l + i) * t.size by rw [Nat.add_mul]; omega]
  · rename_i id p ex
    split at h
    case h_2 => exact h.elim
    rename_i τ y ht
    split at h
    case h_2 => exact h.elim
    rename_i t hty
    cases hl : sameLay u t with
    | false => rw [hl] at h; exact h.elim
    | true =>
      rw [hl] at h
      obtain ⟨⟨xs, l, k⟩, ⟨hg, b1, b2, b3, b4, b5⟩, h⟩ := h
      simp only at hg b1 b2 b3 b4 b5 h
      rw [ex] at hx
      cases hx with | ref ht' hn =>
      rw [ht] at ht'; cases ht'
      obtain ⟨rfl, f, hr, _⟩ := hR.getP ht hg hn
      obtain ⟨ad, cap, rfl, hr⟩ := hr
      rcases hr with ⟨_, rfl, _⟩ | ⟨b, off, fps, rfl, _, q1, q2, q3, q4⟩
      · simp at b5
      have hrun := slc_run (w := w) hT hl ho hv (bnd_eval hR b1) (bnd_eval hR b2) b3 (by omega)
      have : (if cap = l then some (⟨b, off, none⟩ : Addr) else (some (⟨b, off, none⟩ : Addr)).map (·.add (l * t.size))) = some ⟨b, if cap = l then off else off + l * t.size, none⟩ := by
        split <;> simp [Addr.add_lit]
      rw [this] at hrun
      exact .pure hrun (.view ht hn b3 b4 q2) h
  · exact h.elim
end
end Go.Fw
