/-
  The framework, part 26 (before 24): the operations that may fail as functions.
-/
import Derived.Test.YtlalecmgnaoiiaaFw23
namespace Go.Fw

/-- The tree with another value at a path. -/
def setF : (τ : Ty) → τ.den → List Step → (τ' : Ty) → τ'.den → Option τ.den
  | τ, _, [], _, y => castT τ y
  | .osl t, xs, .idx i :: p, τ', y => match xs[i]? with
    | some e => (setF t e p τ' y).map fun e' => xs.set i e'
    | none => none
  | .optr t, x, .deref :: p, τ', y => setF t x p τ' y
  | .st t, x, .unst :: p, τ', y => setF t x p τ' y
  | .pr a _, x, .fst :: p, τ', y => (setF a x.1 p τ' y).map fun e' => (e', x.2)
  | .pr _ b, x, .snd :: p, τ', y => (setF b x.2 p τ' y).map fun e' => (x.1, e')
  | _, _, _, _, _ => none

theorem setF_nil {τ : Ty} {x : τ.den} {τ' : Ty} {y : τ'.den} : setF τ x [] τ' y = castT τ y := by cases τ <;> rfl
theorem SetP.nil_of {τ : Ty} {x : τ.den} {τ' : Ty} {y : τ'.den} {z : τ.den} (h : castT τ y = some z) : SetP τ x [] τ' y z := by
  cases castT_some h
  cases τ <;> exact ⟨rfl, rfl⟩

theorem setF_ok : ∀ {p : List Step} {τ : Ty} {x : τ.den} {τ' : Ty} {y : τ'.den} {z : τ.den}, setF τ x p τ' y = some z → SetP τ x p τ' y z
  | [], τ, x, τ', y, z, h => by rw [setF_nil] at h; exact SetP.nil_of h
  | s :: p, τ, x, τ', y, z, h => by
      cases τ <;> cases s <;> simp only [setF] at h <;> try (cases h; done)
      case osl.idx t i =>
        split at h
        · rename_i e he
          obtain ⟨e', h1, rfl⟩ := Option.map_eq_some_iff.1 h
          exact ⟨e, e', he, setF_ok h1, rfl⟩
        · cases h
      case optr.deref t => exact setF_ok (τ := t) h
      case st.unst t => exact setF_ok (τ := t) h
      case pr.fst a b =>
        obtain ⟨e', h1, rfl⟩ := Option.map_eq_some_iff.1 h
        exact ⟨e', setF_ok h1, rfl⟩
      case pr.snd a b =>
        obtain ⟨e', h1, rfl⟩ := Option.map_eq_some_iff.1 h
        exact ⟨e', setF_ok h1, rfl⟩

def natO (i : Int) : Option Nat := if 0 ≤ i then some i.toNat else none
theorem natO_some {i : Int} {k : Nat} (h : natO i = some k) : i = (k : Int) := by
  unfold natO at h
  split at h
  · cases h; omega
  · cases h
/-- An index that is in range. -/
def idxN (n : Nat) (i : Int) : Option Nat := if 0 ≤ i ∧ i.toNat < n then some i.toNat else none
theorem idxN_some {n : Nat} {i : Int} {k : Nat} (h : idxN n i = some k) : i = (k : Int) ∧ k < n := by
  unfold idxN at h
  split at h
  · cases h; omega
  · cases h
def limO (n : Nat) : Option Unit := if n ≤ lim then some () else none
theorem limO_some {n : Nat} {u : Unit} (h : limO n = some u) : n ≤ lim := by
  unfold limO at h
  split at h
  · assumption
  · cases h
def quoO (k : IntKind) (x y : Int) : Option Int := if y ≠ 0 then some (k.wrap (x.tdiv y)) else none
def remO (x y : Int) : Option Int := if y ≠ 0 then some (x.tmod y) else none
def shlO (k : IntKind) (x y : Int) : Option Int := if 0 ≤ y then some (k.wrap (x * 2 ^ min y.toNat k.bits)) else none
def shrO (k : IntKind) (x y : Int) : Option Int := if 0 ≤ y then some (x.fdiv (2 ^ min y.toNat k.bits)) else none
def bndN (x : Option AV) (d : Nat) : Option Nat :=
  match x with
  | none => some d
  | some (.val (.int _) i) => natO i
  | some _ => none
theorem bndN_ok {x : Option AV} {d k : Nat} (h : bndN x d = some k) : bndP x d k := by
  unfold bndN at h
  unfold bndP
  split at h
  · cases h; rfl
  · exact natO_some h
  · cases h
def leO (l h n : Nat) : Option Unit := if l ≤ h ∧ h ≤ n then some () else none
theorem leO_some {l h n : Nat} {u : Unit} (hh : leO l h n = some u) : l ≤ h ∧ h ≤ n := by
  unfold leO at hh
  split at hh
  · assumption
  · cases hh
def posO (n : Nat) : Option Unit := if 0 < n then some () else none
def madeO (l c : Int) : Option Nat := if 0 ≤ l ∧ l ≤ c ∧ c ≤ (lim : Int) then some l.toNat else none

inductive RN where
  | tot (av : AV)
  | opt (α : Type) (o : Option α) (f : α → AV)
  | new (α : Type) (o : Option α) (t : α → Tree) (d : Nat)
  | no

/-- The same as evalF, where the interpreter prefers a function. -/
def evalN (tt : List (TypeId × Ty)) (an : List (Nat × Ty)) (h : List (Nat × Tree)) (g : Operand → AV) (d : Nat) (op : Op) : RN :=
  match op with
  | .binOp op _ x y _ => match g x, g y with
    | .val (.int k) x, .val (.int k') y => if k = k' then
        (match op with
        | .add => .tot (.val (.int k) (k.wrap (x + y)))
        | .sub => .tot (.val (.int k) (k.wrap (x - y)))
        | .mul => .tot (.val (.int k) (k.wrap (x * y)))
        | .quo => .opt Int (quoO k x y) (.val (.int k))
        | .rem => .opt Int (remO x y) (.val (.int k))
        | .shl => .opt Int (shlO k x y) (.val (.int k))
        | .shr => .opt Int (shrO k x y) (.val (.int k))
        | _ => .no) else
        (match op with
        | .shl => .opt Int (shlO k x y) (.val (.int k))
        | .shr => .opt Int (shrO k x y) (.val (.int k))
        | _ => .no)
    | _, _ => .no
  | .unOp .neg _ x => match g x with
    | .val (.int k) x => .tot (.val (.int k) (k.wrap (0 - x)))
    | _ => .no
  | .convert s e x => match lk tt s, lk tt e, g x with
    | some (.int _), some (.int k), .val (.int _) x => .tot (.val (.int k) (k.wrap x))
    | _, _, _ => .no
  | .nilCheck x => match g x with
    | .val (.ptr m t) x => .opt t.den x fun y => .val (.ptr m t) (some y)
    | _ => .no
  | .indexAddr T x i => match isSlcT tt T, g i with
    | some u, .val (.int _) i => match g x with
      | .val (.slc m t) xs => bif sameLay u t then .opt t.den (getI xs i) fun y => .val (.ptr m t) (some y) else .no
      | .ref id p => match lk h id with
        | some τx => match tyAt τx.1 p with
          | some (.osl t) => bif sameLay u t then .opt Nat ((getF τx.1 τx.2 p (.osl t)).bind fun xs => idxN xs.length i) fun k => .addr id (p ++ [.idx k]) else .no
          | _ => .no
        | none => .no
      | _ => .no
    | _, _ => .no
  | .load T x => match lk tt T with
    | some u => match g x with
      | .addr id p => match lk h id with
        | some τx => match tyAt τx.1 p with
          | some t => bif sameLay u t && t.pure then .opt t.den (getF τx.1 τx.2 p t) fun y => .val t y else .no
          | none => .no
        | none => .no
      | .ref id p => match lk h id with
        | some τx => match tyAt τx.1 p with
          | some (.optr t) => bif sameLay u t && t.pure then .opt t.den (getF τx.1 τx.2 (p ++ [.deref]) t) fun y => .val t y else .no
          | _ => .no
        | none => .no
      | _ => .no
    | none => .no
  | .slice T x lo hi none => match isSlcT tt T with
    | some u => match g x with
      | .val (.slc m t) xs => bif sameLay u t then
          .opt (Nat × Nat) ((bndN (lo.map g) 0).bind fun l => (bndN (hi.map g) xs.length).bind fun e => (leO l e xs.length).map fun _ => (l, e)) (fun q => .val (.slc m t) ((xs.take q.2).drop q.1)) else .no
      | .ref id p => match lk h id with
        | some τx => match tyAt τx.1 p with
          | some (.osl t) => bif sameLay u t then
              .opt (Nat × Nat) ((getF τx.1 τx.2 p (.osl t)).bind fun xs => (bndN (lo.map g) 0).bind fun l => (bndN (hi.map g) xs.length).bind fun e => (leO l e xs.length).bind fun _ => (posO xs.length).map fun _ => (l, e)) (fun q => .view id p q.1 q.2) else .no
          | _ => .no
        | none => .no
      | _ => .no
    | none => .no
  | .makeSlice T l c => match isSlcT tt T, lk an d, lk h d with
    | some u, some (.osl t), none => match zeroD t, g l, g c with
      | some z, .val (.int _) l, .val (.int _) c => bif sameLay u t && Nat.ble t.size 2000 then
          .new Nat (madeO l c) (fun n => ⟨.osl t, List.replicate n z⟩) d else .no
      | _, _, _ => .no
    | _, _, _ => .no
  | .call c => match c.callee, c.args.toList, c.argTypes.toList with
    | .builtin .len, [x], [T] => match isSlcT tt T, g x with
      | some _, .ref id p => match lk h id with
        | some τx => match tyAt τx.1 p with
          | some (.osl t) => .opt (List t.den) (getF τx.1 τx.2 p (.osl t)) fun xs => .val (.int .i64) (xs.length : Int)
          | _ => .no
        | none => .no
      | _, _ => .no
    | _, _, _ => .no
  | _ => .no

def RN.K (r : RN) (Q : AV → List (Nat × Tree) → Prop) : Prop :=
  match r with
  | .tot av => Q av []
  | .opt _ o f => ∃ y, o = some y ∧ Q (f y) []
  | .new _ o t d => ∃ y, o = some y ∧ Q (.ref d []) [(d, t y)]
  | .no => False

theorem evalN_ok {tt : List (TypeId × Ty)} {an : List (Nat × Ty)} {h : List (Nat × Tree)} {g : Operand → AV} {d : Nat} {op : Op} {Q : AV → List (Nat × Tree) → Prop} (hh : (evalN tt an h g d op).K Q) : (evalF tt an h g d op).K Q := by
  unfold evalN at hh
  split at hh
  · -- binOp
    rename_i op T x y U
    simp only [evalF]
    split at hh
    case h_2 => exact hh.elim
    rename_i k x k' y ex ey
    simp only [ex, ey]
    split at hh
    · rename_i e
      subst e
      split at hh
      · simp only [binI, if_true]; exact ⟨_, ⟨trivial, rfl⟩, hh⟩
      · simp only [binI, if_true]; exact ⟨_, ⟨trivial, rfl⟩, hh⟩
      · simp only [binI, if_true]; exact ⟨_, ⟨trivial, rfl⟩, hh⟩
      · obtain ⟨z, hz, hq⟩ := hh
        unfold quoO at hz
        split at hz
        · rename_i hy; cases hz; simp only [binI, if_true]; exact ⟨_, ⟨hy, rfl⟩, hq⟩
        · cases hz
      · obtain ⟨z, hz, hq⟩ := hh
        unfold remO at hz
        split at hz
        · rename_i hy; cases hz; simp only [binI, if_true]; exact ⟨_, ⟨hy, rfl⟩, hq⟩
        · cases hz
      · obtain ⟨z, hz, hq⟩ := hh
        unfold shlO at hz
        split at hz
        · rename_i hy; cases hz; exact ⟨_, ⟨hy, rfl⟩, hq⟩
        · cases hz
      · obtain ⟨z, hz, hq⟩ := hh
        unfold shrO at hz
        split at hz
        · rename_i hy; cases hz; exact ⟨_, ⟨hy, rfl⟩, hq⟩
        · cases hz
      · exact hh.elim
    · split at hh
      · obtain ⟨z, hz, hq⟩ := hh
        unfold shlO at hz
        split at hz
        · rename_i hy; cases hz; exact ⟨_, ⟨hy, rfl⟩, hq⟩
        · cases hz
      · obtain ⟨z, hz, hq⟩ := hh
        unfold shrO at hz
        split at hz
        · rename_i hy; cases hz; exact ⟨_, ⟨hy, rfl⟩, hq⟩
        · cases hz
      · exact hh.elim
  · -- neg
    rename_i T x
    simp only [evalF]
    split at hh
    case h_2 => exact hh.elim
    rename_i k x ex
    rw [ex]
    exact ⟨_, rfl, hh⟩
  · rename_i s e x
    simp only [evalF, convF]
    split at hh
    case h_2 => exact hh.elim
    rename_i k' k k2 x e1 e2 ex
    rw [e1, e2, ex]
    exact ⟨_, rfl, hh⟩
  · rename_i x
    simp only [evalF, nilF]
    split at hh
    case h_2 => exact hh.elim
    rename_i m t x ex
    rw [ex]
    obtain ⟨y, rfl, hq⟩ := hh
    exact ⟨y, rfl, hq⟩
  · rename_i T x i
    simp only [evalF, idxF]
    split at hh
    case h_2 => exact hh.elim
    rename_i u k i e1 e2
    rw [e1, e2]
    simp only
    split at hh
    · rename_i m t xs ex
      rw [ex]
      simp only
      cases hb : sameLay u t with
      | false => rw [hb] at hh; exact hh.elim
      | true =>
      rw [hb] at hh
      obtain ⟨y, hy, hq⟩ := hh
      exact ⟨y, hy, hq⟩
    · rename_i id p ex
      rw [ex]
      simp only
      split at hh
      case h_2 => exact hh.elim
      rename_i τx ht
      rw [ht]
      simp only
      split at hh
      case h_2 => exact hh.elim
      rename_i t hτ
      rw [hτ]
      simp only
      cases hb : sameLay u t with
      | false => rw [hb] at hh; exact hh.elim
      | true =>
      rw [hb] at hh
      obtain ⟨y, hy, hq⟩ := hh
      obtain ⟨xs, hx, hy⟩ := Option.bind_eq_some_iff.1 hy
      obtain ⟨h1, h2⟩ := idxN_some hy
      exact ⟨(xs, y), ⟨getF_ok hx, h1, h2⟩, hq⟩
    · exact hh.elim
  · rename_i T x
    simp only [evalF, loadF]
    split at hh
    case h_2 => exact hh.elim
    rename_i u e1
    rw [e1]
    simp only
    split at hh
    · rename_i id p ex
      rw [ex]
      simp only
      split at hh
      case h_2 => exact hh.elim
      rename_i τx ht
      rw [ht]
      simp only
      split at hh
      case h_2 => exact hh.elim
      rename_i t hτ
      rw [hτ]
      simp only [readF]
      cases hb : (sameLay u t && t.pure) with
      | false => rw [hb] at hh; exact hh.elim
      | true =>
      rw [hb] at hh
      simp only [Bool.and_eq_true] at hb
      rw [hb.1, hb.2]
      obtain ⟨y, hy, hq⟩ := hh
      exact ⟨y, getF_ok hy, hq⟩
    · rename_i id p ex
      rw [ex]
      simp only
      split at hh
      case h_2 => exact hh.elim
      rename_i τx ht
      rw [ht]
      simp only
      split at hh
      case h_2 => exact hh.elim
      rename_i t hτ
      rw [hτ]
      simp only [readF]
      cases hb : (sameLay u t && t.pure) with
      | false => rw [hb] at hh; exact hh.elim
      | true =>
      rw [hb] at hh
      simp only [Bool.and_eq_true] at hb
      rw [hb.1, hb.2]
      obtain ⟨y, hy, hq⟩ := hh
      exact ⟨y, getF_ok hy, hq⟩
    · exact hh.elim
  · rename_i T x lo hi
    simp only [evalF, slcF]
    split at hh
    case h_2 => exact hh.elim
    rename_i u e1
    rw [e1]
    simp only
    split at hh
    · rename_i m t xs ex
      rw [ex]
      simp only
      cases hb : sameLay u t with
      | false => rw [hb] at hh; exact hh.elim
      | true =>
      rw [hb] at hh
      obtain ⟨y, hy, hq⟩ := hh
      obtain ⟨l, hl, hy⟩ := Option.bind_eq_some_iff.1 hy
      obtain ⟨e, he, hy⟩ := Option.bind_eq_some_iff.1 hy
      obtain ⟨v, hv, rfl⟩ := Option.map_eq_some_iff.1 hy
      obtain ⟨h1, h2⟩ := leO_some hv
      exact ⟨(l, e), ⟨bndN_ok hl, bndN_ok he, h1, h2⟩, hq⟩
    · rename_i id p ex
      rw [ex]
      simp only
      split at hh
      case h_2 => exact hh.elim
      rename_i τx ht
      rw [ht]
      simp only
      split at hh
      case h_2 => exact hh.elim
      rename_i t hτ
      rw [hτ]
      simp only
      cases hb : sameLay u t with
      | false => rw [hb] at hh; exact hh.elim
      | true =>
      rw [hb] at hh
      obtain ⟨y, hy, hq⟩ := hh
      obtain ⟨xs, hx, hy⟩ := Option.bind_eq_some_iff.1 hy
      obtain ⟨l, hl, hy⟩ := Option.bind_eq_some_iff.1 hy
      obtain ⟨e, he, hy⟩ := Option.bind_eq_some_iff.1 hy
      obtain ⟨v, hv, hy⟩ := Option.bind_eq_some_iff.1 hy
      obtain ⟨v2, hv2, rfl⟩ := Option.map_eq_some_iff.1 hy
      obtain ⟨h1, h2⟩ := leO_some hv
      unfold posO at hv2
      split at hv2
      · rename_i h3
        exact ⟨(xs, l, e), ⟨getF_ok hx, bndN_ok hl, bndN_ok he, h1, h2, h3⟩, hq⟩
      · cases hv2
    · exact hh.elim
  · rename_i T l c
    simp only [evalF, makeF]
    split at hh
    case h_2 => exact hh.elim
    rename_i u t e1 e2 e3
    rw [e1, e2, e3]
    simp only
    split at hh
    case h_2 => exact hh.elim
    rename_i z k l k' c e4 e5 e6
    rw [e4, e5, e6]
    simp only
    cases hb : (sameLay u t && Nat.ble t.size 2000) with
    | false => rw [hb] at hh; exact hh.elim
    | true =>
    rw [hb] at hh
    obtain ⟨y, hy, hq⟩ := hh
    unfold madeO at hy
    split at hy
    · rename_i hc
      cases hy
      exact ⟨(l.toNat, c.toNat), ⟨(Int.toNat_of_nonneg hc.1).symm, (Int.toNat_of_nonneg (Int.le_trans hc.1 hc.2.1)).symm, by show l.toNat ≤ c.toNat; omega, by show c.toNat ≤ lim; omega⟩, hq⟩
    · cases hy
  · rename_i c
    simp only [evalF]
    split at hh
    · rename_i x T e1 e2 e3
      rw [e1, e2, e3]
      simp only [lenF]
      split at hh
      case h_2 => exact hh.elim
      rename_i u id p e4 e5
      rw [e4, e5]
      simp only
      split at hh
      case h_2 => exact hh.elim
      rename_i τx ht
      rw [ht]
      simp only
      split at hh
      case h_2 => exact hh.elim
      rename_i t hτ
      rw [hτ]
      obtain ⟨y, hy, hq⟩ := hh
      exact ⟨y, getF_ok hy, hq⟩
    · exact hh.elim
  · exact hh.elim
end Go.Fw
