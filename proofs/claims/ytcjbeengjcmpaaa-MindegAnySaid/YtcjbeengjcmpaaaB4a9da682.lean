/-
  Parts of the proof: Fw26, Fw27, Fw28, Fw34, Fw35, Fw37, Fw42, Fw24, Fw29, Fw31, Fw32: the framework (Fw), pure forms (Dn), plain laws (Pl, Th), calls of functions (Ok).
-/
import Derived.Test.YtcjbeengjcmpaaaB9dfea661

set_option linter.all false
section
namespace Go.Fw
def setF : (τ : Ty) → τ.den → List Step → (τ' : Ty) → τ'.den → Option τ.den
 | τ, _, [], _, y => castT τ y
 | .osl t, xs, .idx i :: p, τ', y => match xs[i]? with
   | some e => (setF t e p τ' y).map fun e' => xs.set i e'
   | none => none
 | .optr t, x, .deref :: p, τ', y => setF t x p τ' y
 | .st t, x, .unst :: p, τ', y => setF t x p τ' y
 | .pr a _, x, .fst :: p, τ', y => (setF a x.1 p τ' y).map fun e' => (e', x.2)
 | .pr _ b, x, .snd :: p, τ', y => (setF b x.2 p τ' y).map fun e' => (x.1, e')
 | _, _, _, _, _ => none
theorem setF_nil {τ : Ty} {x : τ.den} {τ' : Ty} {y : τ'.den} : setF τ x [] τ' y = castT τ y := by cases τ <;> rfl
theorem SetP.nil_of {τ : Ty} {x : τ.den} {τ' : Ty} {y : τ'.den} {z : τ.den} (h : castT τ y = some z) : SetP τ x [] τ' y z := by
 cases castT_some h
 cases τ <;> exact ⟨rfl, rfl⟩
theorem setF_ok : ∀ {p : List Step} {τ : Ty} {x : τ.den} {τ' : Ty} {y : τ'.den} {z : τ.den}, setF τ x p τ' y = some z → SetP τ x p τ' y z
 | [], τ, x, τ', y, z, h => by rw [setF_nil] at h; exact SetP.nil_of h
 | s :: p, τ, x, τ', y, z, h => by
     cases τ <;> cases s <;> simp only [setF] at h <;> try (cases h; done)
     case osl.idx t i =>
      split at h
      ·rename_i e he
       obtain ⟨e', h1, rfl⟩ := Option.map_eq_some_iff.1 h
       exact ⟨e, e', he, setF_ok h1, rfl⟩
      ·cases h
     case optr.deref t => exact setF_ok (τ := t) h
     case st.unst t => exact setF_ok (τ := t) h
     case pr.fst a b =>
      obtain ⟨e', h1, rfl⟩ := Option.map_eq_some_iff.1 h
      exact ⟨e', setF_ok h1, rfl⟩
     case pr.snd a b =>
      obtain ⟨e', h1, rfl⟩ := Option.map_eq_some_iff.1 h
      exact ⟨e', setF_ok h1, rfl⟩
def natO (i : Int) : Option Nat := if 0 ≤ i then some i.toNat else none
theorem natO_some {i : Int} {k : Nat} (h : natO i = some k) : i = (k : Int) := by
 unfold natO at h
 split at h
 ·cases h; omega
 ·cases h
def idxN (n : Nat) (i : Int) : Option Nat := if 0 ≤ i ∧ i.toNat < n then some i.toNat else none
theorem idxN_some {n : Nat} {i : Int} {k : Nat} (h : idxN n i = some k) : i = (k : Int) ∧ k < n := by
 unfold idxN at h
 split at h
 ·cases h; omega
 ·cases h
def limO (n : Nat) : Option Unit := if n ≤ lim then some () else none
theorem limO_some {n : Nat} {u : Unit} (h : limO n = some u) : n ≤ lim := by
 unfold limO at h
 split at h
 ·assumption
 ·cases h
def quoO (k : IntKind) (x y : Int) : Option Int := if y ≠ 0 then some (k.wrap (x.tdiv y)) else none
def remO (x y : Int) : Option Int := if y ≠ 0 then some (x.tmod y) else none
def shlO (k : IntKind) (x y : Int) : Option Int := if 0 ≤ y then some (k.wrap (x * 2 ^ min y.toNat k.bits)) else none
def shrO (k : IntKind) (x y : Int) : Option Int := if 0 ≤ y then some (x.fdiv (2 ^ min y.toNat k.bits)) else none
def andI (k : IntKind) (x y : Int) : Int := k.wrap (BitVec.ofInt k.bits x &&& BitVec.ofInt k.bits y).toNat
def orI (k : IntKind) (x y : Int) : Int := k.wrap (BitVec.ofInt k.bits x ||| BitVec.ofInt k.bits y).toNat
def xorI (k : IntKind) (x y : Int) : Int := k.wrap (BitVec.ofInt k.bits x ^^^ BitVec.ofInt k.bits y).toNat
def andNotI (k : IntKind) (x y : Int) : Int := k.wrap (BitVec.ofInt k.bits x &&& ~~~BitVec.ofInt k.bits y).toNat
def bndN (x : Option AV) (d : Nat) : Option Nat :=
 match x with
 | none => some d
 | some (.val (.int _) i) => natO i
 | some _ => none
theorem bndN_ok {x : Option AV} {d k : Nat} (h : bndN x d = some k) : bndP x d k := by
 unfold bndN at h
 unfold bndP
 split at h
 ·cases h; rfl
 ·exact natO_some h
 ·cases h
def leO (l h n : Nat) : Option Unit := if l ≤ h ∧ h ≤ n then some () else none
theorem leO_some {l h n : Nat} {u : Unit} (hh : leO l h n = some u) : l ≤ h ∧ h ≤ n := by
 unfold leO at hh
 split at hh
 ·assumption
 ·cases hh
def posO (_ : Nat) : Option Unit := some ()
def madeO (l c : Int) : Option Nat := if 0 ≤ l ∧ l ≤ c ∧ c ≤ (lim : Int) then some l.toNat else none
inductive RN where
 | tot (av : AV)
 | opt (α : Type) (o : Option α) (f : α → AV)
 | new (α : Type) (o : Option α) (t : α → Tree) (d : Nat)
 | no
def evalN (tt : List (TypeId × Ty)) (an : List (Nat × Ty)) (h : List (Nat × Tree)) (g : Operand → AV) (d : Nat) (op : Op) : RN :=
 match op with
 | .binOp op _ x y _ => match g x, g y with
   | .val (.int k) x, .val (.int k') y => if k = k' then
      (match op with
      | .add => .tot (.val (.int k) (k.wrap (x + y)))
      | .sub => .tot (.val (.int k) (k.wrap (x - y)))
      | .mul => .tot (.val (.int k) (k.wrap (x * y)))
      | .quo => .opt Int (quoO k x y) (.val (.int k))
      | .rem => .opt Int (remO x y) (.val (.int k))
      | .shl => .opt Int (shlO k x y) (.val (.int k))
      | .shr => .opt Int (shrO k x y) (.val (.int k))
      | .and => .tot (.val (.int k) (andI k x y))
      | .or => .tot (.val (.int k) (orI k x y))
      | .xor => .tot (.val (.int k) (xorI k x y))
      | .andNot => .tot (.val (.int k) (andNotI k x y))
      | _ => .no) else
      (match op with
      | .shl => .opt Int (shlO k x y) (.val (.int k))
      | .shr => .opt Int (shrO k x y) (.val (.int k))
      | _ => .no)
   | _, _ => .no
 | .unOp .neg _ x => match g x with
   | .val (.int k) x => .tot (.val (.int k) (k.wrap (0 - x)))
   | _ => .no
 | .convert s e x => match lk tt s, lk tt e, g x with
   | some (.int _), some (.int k), .val (.int _) x => .tot (.val (.int k) (k.wrap x))
   | _, _, _ => .no
 | .nilCheck x => match g x with
   | .val (.ptr m t) x => .opt t.den x fun y => .val (.ptr m t) (some y)
   | _ => .no
 | .indexAddr T x i => match isSlcT tt T, g i with
   | some u, .val (.int _) i => match g x with
     | .val (.slc m t) xs => bif sameLay u t then .opt t.den (getI xs i) fun y => .val (.ptr m t) (some y) else .no
     | .ref id p => match lk h id with
       | some τx => match tyAt τx.1 p with
         | some (.osl t) => bif sameLay u t then .opt Nat ((getF τx.1 τx.2 p (.osl t)).bind fun xs => idxN xs.length i) fun k => .addr id (p ++ [.idx k]) else .no
         | _ => .no
       | none => .no
     | _ => .no
   | _, _ => .no
 | .load T x => match lk tt T with
   | some u => match g x with
     | .addr id p => match lk h id with
       | some τx => match tyAt τx.1 p with
         | some t => bif sameLay u t && t.pure then .opt t.den (getF τx.1 τx.2 p t) fun y => .val t y else .no
         | none => .no
       | none => .no
     | .ref id p => match lk h id with
       | some τx => match tyAt τx.1 p with
         | some (.optr t) => bif sameLay u t && t.pure then .opt t.den (getF τx.1 τx.2 (p ++ [.deref]) t) fun y => .val t y else .no
         | _ => .no
       | none => .no
     | .val (.ptr _ t) x => bif sameLay u t then .opt t.den x fun y => .val t y else .no
     | _ => .no
   | none => .no
 | .fieldAddr T x n => match isStT tt T, g x with
   | some u, .val (.ptr m (.st t)) x => bif sameLay u t && (fldSteps t n).isSome then .opt t.den x fun y => (match fldV t y n with
      | some q => .val (.ptr m q.1) (some q.2)
      | none => .dead) else .no
   | _, _ => .no
 | .slice T x lo hi none => match isSlcT tt T with
   | some u => match g x with
     | .val (.slc m t) xs => bif sameLay u t then
        .opt (Nat × Nat) ((bndN (lo.map g) 0).bind fun l => (bndN (hi.map g) xs.length).bind fun e => (leO l e xs.length).map fun _ => (l, e)) (fun q => .val (.slc m t) ((xs.take q.2).drop q.1)) else .no
     | .ref id p => match lk h id with
       | some τx => match tyAt τx.1 p with
         | some (.osl t) => bif sameLay u t then
            .opt (Nat × Nat) ((getF τx.1 τx.2 p (.osl t)).bind fun xs => (bndN (lo.map g) 0).bind fun l => (bndN (hi.map g) xs.length).bind fun e => (leO l e xs.length).bind fun _ => (posO xs.length).map fun _ => (l, e)) (fun q => .view id p q.1 q.2) else .no
         | _ => .no
       | none => .no
     | _ => .no
   | none => .no
 | .makeSlice T l c => match isSlcT tt T, lk an d, lk h d with
   | some u, some (.osl t), none => match zeroD t, g l, g c with
     | some z, .val (.int _) l, .val (.int _) c => bif sameLay u t && Nat.ble t.size 2000 then
        .new Nat (madeO l c) (fun n => ⟨.osl t, List.replicate n z⟩) d else .no
     | _, _, _ => .no
   | _, _, _ => .no
 | .index T x i => match lk tt T, g x, g i with
   | some .str, .cv (.string s), .val (.int _) n => .opt Int (strI s n) (.val (.int .u8))
   | some .str, .val .str s, .val (.int _) n => .opt Int (strI s n) (.val (.int .u8))
   | _, _, _ => .no
 | .lookup T x k ok => match isMapT tt T, g x, g k with
   | some u, .ref id p, .val (.int .i64) k => match lk h id with
     | some τx => match tyAt τx.1 p with
       | some (.mp t) => match zeroD t with
         | some z => bif sameLay u t then .opt (Option (List (Int × t.den) × Nat)) (getF τx.1 τx.2 p (.mp t)) fun mm => lookV t mm z k ok else .no
         | none => .no
       | _ => .no
     | none => .no
   | _, _, _ => .no
 | .call c => match c.callee, c.args.toList, c.argTypes.toList with
   | .builtin .len, [x], [T] => match isSlcT tt T, g x with
     | some _, .ref id p => match lk h id with
       | some τx => match tyAt τx.1 p with
         | some (.osl t) => .opt (List t.den) (getF τx.1 τx.2 p (.osl t)) fun xs => .val (.int .i64) (xs.length : Int)
         | _ => .no
       | none => .no
     | none, .ref id p => match isMapT tt T, lk h id with
       | some _, some τx => match tyAt τx.1 p with
         | some (.mp t) => .opt (Option (List (Int × t.den) × Nat)) (getF τx.1 τx.2 p (.mp t)) fun mm => .val (.int .i64) (mLn mm)
         | _ => .no
       | _, _ => .no
     | _, _ => .no
   | _, _, _ => .no
 | _ => .no
theorem fldV_some : ∀ {t : Ty} {y : t.den} {n : Nat}, (fldSteps t n).isSome = true → ∃ q, fldV t y n = some q
 | .pr a b, y, 0, _ => ⟨_, rfl⟩
 | .pr a b, y, n + 1, h => by
    simp only [fldSteps] at h
    split at h
    ·rename_i q hq; exact fldV_some (t := b) (by rw [hq]; rfl)
    ·cases h
 | .int _, _, _, h => by cases h
 | .bool, _, _, h => by cases h
 | .str, _, _, h => by cases h
 | .slc _ _, _, _, h => by cases h
 | .ptr _ _, _, _, h => by cases h
 | .osl _, _, _, h => by cases h
 | .optr _, _, _, h => by cases h
 | .st _, _, _, h => by cases h
 | .nil, _, _, h => by cases h
 | .blk, _, _, h => by cases h
def RN.K (r : RN) (Q : AV → List (Nat × Tree) → Prop) : Prop :=
 match r with
 | .tot av => Q av []
 | .opt _ o f => ∃ y, o = some y ∧ Q (f y) []
 | .new _ o t d => ∃ y, o = some y ∧ Q (.ref d []) [(d, t y)]
 | .no => False
theorem evalN_ok {tt : List (TypeId × Ty)} {an : List (Nat × Ty)} {h : List (Nat × Tree)} {g : Operand → AV} {d : Nat} {op : Op} {Q : AV → List (Nat × Tree) → Prop} (hh : (evalN tt an h g d op).K Q) : (evalF tt an h g d op).K Q := by
 unfold evalN at hh
 split at hh
 ·-- binOp
  rename_i op T x y U
  simp only [evalF]
  split at hh
  case h_2 => exact hh.elim
  rename_i k x k' y ex ey
  simp only [ex, ey]
  split at hh
  ·rename_i e
   subst e
   split at hh
   ·simp only [binI, if_true]; exact ⟨_, ⟨trivial, rfl⟩, hh⟩
   ·simp only [binI, if_true]; exact ⟨_, ⟨trivial, rfl⟩, hh⟩
   ·simp only [binI, if_true]; exact ⟨_, ⟨trivial, rfl⟩, hh⟩
   ·obtain ⟨z, hz, hq⟩ := hh
    unfold quoO at hz
    split at hz
    ·rename_i hy; cases hz; simp only [binI, if_true]; exact ⟨_, ⟨hy, rfl⟩, hq⟩
    ·cases hz
   ·obtain ⟨z, hz, hq⟩ := hh
    unfold remO at hz
    split at hz
    ·rename_i hy; cases hz; simp only [binI, if_true]; exact ⟨_, ⟨hy, rfl⟩, hq⟩
    ·cases hz
   ·obtain ⟨z, hz, hq⟩ := hh
    unfold shlO at hz
    split at hz
    ·rename_i hy; cases hz; exact ⟨_, ⟨hy, rfl⟩, hq⟩
    ·cases hz
   ·obtain ⟨z, hz, hq⟩ := hh
    unfold shrO at hz
    split at hz
    ·rename_i hy; cases hz; exact ⟨_, ⟨hy, rfl⟩, hq⟩
    ·cases hz
   ·simp only [binI, if_true]; exact ⟨_, ⟨trivial, rfl⟩, hh⟩
   ·simp only [binI, if_true]; exact ⟨_, ⟨trivial, rfl⟩, hh⟩
   ·simp only [binI, if_true]; exact ⟨_, ⟨trivial, rfl⟩, hh⟩
   ·simp only [binI, if_true]; exact ⟨_, ⟨trivial, rfl⟩, hh⟩
   ·exact hh.elim
  ·split at hh
   ·obtain ⟨z, hz, hq⟩ := hh
    unfold shlO at hz
    split at hz
    ·rename_i hy; cases hz; exact ⟨_, ⟨hy, rfl⟩, hq⟩
    ·cases hz
   ·obtain ⟨z, hz, hq⟩ := hh
    unfold shrO at hz
    split at hz
    ·rename_i hy; cases hz; exact ⟨_, ⟨hy, rfl⟩, hq⟩
    ·cases hz
   ·exact hh.elim
 ·-- neg
  rename_i T x
  simp only [evalF]
  split at hh
  case h_2 => exact hh.elim
  rename_i k x ex
  rw [ex]
  exact ⟨_, rfl, hh⟩
 ·rename_i s e x
  simp only [evalF, convF]
  split at hh
  case h_2 => exact hh.elim
  rename_i k' k k2 x e1 e2 ex
  rw [e1, e2, ex]
  exact ⟨_, rfl, hh⟩
 ·rename_i x
  simp only [evalF, nilF]
  split at hh
  case h_2 => exact hh.elim
  rename_i m t x ex
  rw [ex]
  obtain ⟨y, rfl, hq⟩ := hh
  exact ⟨y, rfl, hq⟩
 ·rename_i T x i
  simp only [evalF, idxF]
  split at hh
  case h_2 => exact hh.elim
  rename_i u k i e1 e2
  rw [e1, e2]
  simp only
  split at hh
  ·rename_i m t xs ex
   rw [ex]
   simp only
   cases hb : sameLay u t with
   | false => rw [hb] at hh; exact hh.elim
   | true =>
   rw [hb] at hh
   obtain ⟨y, hy, hq⟩ := hh
   exact ⟨y, hy, hq⟩
  ·rename_i id p ex
   rw [ex]
   simp only
   split at hh
   case h_2 => exact hh.elim
   rename_i τx ht
   rw [ht]
   simp only
   split at hh
   case h_2 => exact hh.elim
   rename_i t hτ
   rw [hτ]
   simp only
   cases hb : sameLay u t with
   | false => rw [hb] at hh; exact hh.elim
   | true =>
   rw [hb] at hh
   obtain ⟨y, hy, hq⟩ := hh
   obtain ⟨xs, hx, hy⟩ := Option.bind_eq_some_iff.1 hy
   obtain ⟨h1, h2⟩ := idxN_some hy
   exact ⟨(xs, y), ⟨getF_ok hx, h1, h2⟩, hq⟩
  ·exact hh.elim
 ·rename_i T x
  simp only [evalF, loadF]
  split at hh
  case h_2 => exact hh.elim
  rename_i u e1
  rw [e1]
  simp only
  split at hh
  ·rename_i id p ex
   rw [ex]
   simp only
   split at hh
   case h_2 => exact hh.elim
   rename_i τx ht
   rw [ht]
   simp only
   split at hh
   case h_2 => exact hh.elim
   rename_i t hτ
   rw [hτ]
   simp only [readF]
   cases hb : (sameLay u t && t.pure) with
   | false => rw [hb] at hh; exact hh.elim
   | true =>
   rw [hb] at hh
   simp only [Bool.and_eq_true] at hb
   rw [hb.1, hb.2]
   obtain ⟨y, hy, hq⟩ := hh
   exact ⟨y, getF_ok hy, hq⟩
  ·rename_i id p ex
   rw [ex]
   simp only
   split at hh
   case h_2 => exact hh.elim
   rename_i τx ht
   rw [ht]
   simp only
   split at hh
   case h_2 => exact hh.elim
   rename_i t hτ
   rw [hτ]
   simp only [readF]
   cases hb : (sameLay u t && t.pure) with
   | false => rw [hb] at hh; exact hh.elim
   | true =>
   rw [hb] at hh
   simp only [Bool.and_eq_true] at hb
   rw [hb.1, hb.2]
   obtain ⟨y, hy, hq⟩ := hh
   exact ⟨y, getF_ok hy, hq⟩
  ·rename_i m t x ex
   rw [ex]
   cases hb : sameLay u t with
   | false => rw [hb] at hh; exact hh.elim
   | true =>
   rw [hb] at hh
   obtain ⟨y, rfl, hq⟩ := hh
   simp only [hb, cond_true]
   exact hq
  ·exact hh.elim
 ·rename_i T x n
  simp only [evalF, fldAF]
  split at hh
  case h_2 => exact hh.elim
  rename_i u m t x e1 ex
  rw [e1, ex]
  cases hb : (sameLay u t && (fldSteps t n).isSome) with
  | false => rw [hb] at hh; exact hh.elim
  | true =>
  rw [hb] at hh
  simp only [Bool.and_eq_true] at hb
  obtain ⟨y, rfl, hq⟩ := hh
  obtain ⟨q, hf⟩ := fldV_some (y := y) hb.2
  simp only [hf] at hq
  simp only [hb.1, cond_true, hf]
  exact hq
 ·rename_i T x lo hi
  simp only [evalF, slcF]
  split at hh
  case h_2 => exact hh.elim
  rename_i u e1
  rw [e1]
  simp only
  split at hh
  ·rename_i m t xs ex
   rw [ex]
   simp only
   cases hb : sameLay u t with
   | false => rw [hb] at hh; exact hh.elim
   | true =>
   rw [hb] at hh
   obtain ⟨y, hy, hq⟩ := hh
   obtain ⟨l, hl, hy⟩ := Option.bind_eq_some_iff.1 hy
   obtain ⟨e, he, hy⟩ := Option.bind_eq_some_iff.1 hy
   obtain ⟨v, hv, rfl⟩ := Option.map_eq_some_iff.1 hy
   obtain ⟨h1, h2⟩ := leO_some hv
   exact ⟨(l, e), ⟨bndN_ok hl, bndN_ok he, h1, h2⟩, hq⟩
  ·rename_i id p ex
   rw [ex]
   simp only
   split at hh
   case h_2 => exact hh.elim
   rename_i τx ht
   rw [ht]
   simp only
   split at hh
   case h_2 => exact hh.elim
   rename_i t hτ
   rw [hτ]
   simp only
   cases hb : sameLay u t with
   | false => rw [hb] at hh; exact hh.elim
   | true =>
   rw [hb] at hh
   obtain ⟨y, hy, hq⟩ := hh
   obtain ⟨xs, hx, hy⟩ := Option.bind_eq_some_iff.1 hy
   obtain ⟨l, hl, hy⟩ := Option.bind_eq_some_iff.1 hy
   obtain ⟨e, he, hy⟩ := Option.bind_eq_some_iff.1 hy
   obtain ⟨v, hv, hy⟩ := Option.bind_eq_some_iff.1 hy
   obtain ⟨v2, hv2, rfl⟩ := Option.map_eq_some_iff.1 hy
   obtain ⟨h1, h2⟩ := leO_some hv
   exact ⟨(xs, l, e), ⟨getF_ok hx, bndN_ok hl, bndN_ok he, h1, h2⟩, hq⟩
  ·exact hh.elim
 ·rename_i T l c
  simp only [evalF, makeF]
  split at hh
  case h_2 => exact hh.elim
  rename_i u t e1 e2 e3
  rw [e1, e2, e3]
  simp only
  split at hh
  case h_2 => exact hh.elim
  rename_i z k l k' c e4 e5 e6
  rw [e4, e5, e6]
  simp only
  cases hb : (sameLay u t && Nat.ble t.size 2000) with
  | false => rw [hb] at hh; exact hh.elim
  | true =>
  rw [hb] at hh
  obtain ⟨y, hy, hq⟩ := hh
  unfold madeO at hy
  split at hy
  ·rename_i hc
   cases hy
   exact ⟨(l.toNat, c.toNat), ⟨(Int.toNat_of_nonneg hc.1).symm, (Int.toNat_of_nonneg (Int.le_trans hc.1 hc.2.1)).symm, by show l.toNat ≤ c.toNat; omega, by show c.toNat ≤ lim; omega⟩, hq⟩
  ·cases hy
 ·rename_i T x i
  simp only [evalF, strF]
  split at hh
  ·rename_i s k n e1 e2 e3
   rw [e1, e2, e3]
   obtain ⟨b, hb, hq⟩ := hh
   exact ⟨b, hb, hq⟩
  ·rename_i s k n e1 e2 e3
   rw [e1, e2, e3]
   obtain ⟨b, hb, hq⟩ := hh
   exact ⟨b, hb, hq⟩
  ·exact hh.elim
 ·rename_i T x k ok
  simp only [evalF, lookF]
  split at hh
  case h_2 => exact hh.elim
  rename_i u id p k e1 e2 e3
  rw [e1, e2, e3]
  simp only
  split at hh
  case h_2 => exact hh.elim
  rename_i τx ht
  rw [ht]
  simp only
  split at hh
  case h_2 => exact hh.elim
  rename_i t hτ
  rw [hτ]
  simp only
  split at hh
  case h_2 => exact hh.elim
  rename_i z hz
  rw [hz]
  simp only
  cases hb : sameLay u t with
  | false => rw [hb] at hh; exact hh.elim
  | true =>
  rw [hb] at hh
  obtain ⟨y, hy, hq⟩ := hh
  exact ⟨y, getF_ok hy, hq⟩
 ·rename_i c
  simp only [evalF]
  split at hh
  ·rename_i x T e1 e2 e3
   rw [e1, e2, e3]
   simp only
   split at hh
   ·rename_i u id p e4 e5
    rw [e4, e5]
    simp only [lenF, e4]
    split at hh
    case h_2 => exact hh.elim
    rename_i τx ht
    rw [ht]
    simp only
    split at hh
    case h_2 => exact hh.elim
    rename_i t hτ
    rw [hτ]
    obtain ⟨y, hy, hq⟩ := hh
    exact ⟨y, getF_ok hy, hq⟩
   ·rename_i id p e4 e5
    rw [e4, e5]
    simp only [mlnF]
    split at hh
    case h_2 => exact hh.elim
    rename_i u τx e6 ht
    rw [e6, ht]
    simp only
    split at hh
    case h_2 => exact hh.elim
    rename_i t hτ
    rw [hτ]
    obtain ⟨y, hy, hq⟩ := hh
    exact ⟨y, getF_ok hy, hq⟩
   ·exact hh.elim
  ·exact hh.elim
 ·exact hh.elim
def cpL {α : Type} (xs ys : List α) (lo hi : Nat) : List α := xs.take lo ++ (ys.take (hi - lo) ++ xs.drop (lo + min ys.length (hi - lo)))
noncomputable def deep {α β : Type} (F : (α → Option β) → α → Option β) (n : Nat) : α → Option β := Nat.rec (fun _ => none) (fun _ f => F f) n
open Classical in
noncomputable def fixO {α β : Type} (f : Nat → α → Option β) (a : α) : Option β := if h : ∃ n, (f n a).isSome = true then f h.choose a else none
theorem fixO_some {α β : Type} {f : Nat → α → Option β} {a : α} {b : β} (h : fixO f a = some b) : ∃ n, f n a = some b := by
 unfold fixO at h
 split at h
 ·exact ⟨_, h⟩
 ·cases h
end Go.Fw
end
section
namespace Go.Fw
def isV : AV → Bool
 | .val _ _ => true
 | _ => false
def lasts : AV → Bool
 | .val _ _ => true
 | .clo _ l => l.all isV
 | _ => false
theorem lasts_ids {a : AV} (h : lasts a = true) : ∀ id ∈ a.ids, False := by
 intro id hid
 cases a with
 | val τ x => simp [AV.ids] at hid
 | clo f l =>
   have h : l.all isV = true := h
   have : ∀ l : List AV, l.all isV = true → ∀ id ∈ AV.idsL l, False := by
    intro l
    induction l with
    | nil => intro _ id hid; simp [AV.idsL] at hid
    | cons a l ih =>
      intro h id hid
      simp only [List.all_cons, Bool.and_eq_true] at h
      simp only [AV.idsL, List.mem_append] at hid
      rcases hid with hid | hid
      ·cases a with
       | val τ x => simp [AV.ids] at hid
       | _ => cases h.1
      ·exact ih h.2 id hid
   exact this l h id hid
 | _ => cases h
def KG (C : Ctx) (kg : List (Nat × AV)) : Prop :=
 (∀ b, C.I0 b ∨ C.B b → b < C.w0.heap.size ∧ ¬ C.F0 b) ∧
 ∀ q ∈ kg, q.1 ∈ C.pin ∧ lasts q.2 = true ∧ AVok (md C.I0 C.B) C.w0 [] (fun _ => []) (fun _ => []) q.2 (C.vs q.1)
section
variable {E : Env} {C : Ctx}
theorem KG.nil (h : ∀ b, C.I0 b ∨ C.B b → b < C.w0.heap.size ∧ ¬ C.F0 b) : KG C [] := ⟨h, fun q h => by cases h⟩
theorem gt_append (l g : List (Nat × AV)) (k : Nat) : gt (l ++ g) k = match lk l k with | some v => v | none => gt g k := by
 unfold gt
 rw [lk_append]
 cases lk l k <;> rfl
theorem lk_mem' {α : Type} : ∀ {l : List (Nat × α)} {k : Nat} {v : α}, lk l k = some v → (k, v) ∈ l
 | [], _, _, h => by cases h
 | (k0, v0) :: l, k, v, h => by
     rw [lk_cons] at h
     split at h
     ·rename_i e; cases h; subst e; exact List.mem_cons_self ..
     ·exact List.mem_cons_of_mem _ (lk_mem' h)
theorem Rel.kg {kg : List (Nat × AV)} (hk : KG C kg) {st : St} {tm : Array Value} {w : World} (h : Rel C st tm w) : Rel C ⟨kg ++ st.g, st.h⟩ tm w := by
 obtain ⟨I, rt, fp, hR⟩ := h
 refine ⟨I, rt, fp, { hR with tmp := fun k => ?_ }⟩
 show AVok _ _ _ _ _ (gt (kg ++ st.g) k) _
 rw [gt_append]
 split
 ·rename_i av hl
  obtain ⟨h1, h2, h3⟩ := hk.2 _ (lk_mem' hl)
  have h3 : AVok (md C.I0 C.B) C.w0 [] (fun _ => []) (fun _ => []) av (C.vs k) := h3
  rw [hR.pin k h1]
  refine h3.monoOn (fun m b hm => ?_) (fun id hid => (lasts_ids h2 id hid).elim)
  have hb : C.I0 b ∨ C.B b := md_or hm
  obtain ⟨q1, q2⟩ := hk.1 b hb
  refine ⟨?_, Sm.of_heap (hR.frame b q1 q2)⟩
  cases m
  ·exact hR.i0 b hm
  ·exact hm.imp (hR.i0 b) id
 ·exact hR.tmp k
theorem J.kg {kg : List (Nat × AV)} (hk : KG C kg) {c : Code} {st : St} {Q : Exit → St → Prop} (h : J E C c ⟨kg ++ st.g, st.h⟩ Q) : J E C c st Q :=
 fun a w hR hd => h a w (hR.kg hk) hd
def keepG (g : List (Nat × AV)) : List Nat → Option (List (Nat × AV))
 | [] => some []
 | k :: l => match gt g k with
   | .val τ x => (keepG g l).map fun r => (k, .val τ x) :: r
   | .clo f q => bif q.all isV then (keepG g l).map fun r => (k, .clo f q) :: r else none
   | _ => none
theorem keepG_ok {g : List (Nat × AV)} : ∀ {l : List Nat} {r : List (Nat × AV)}, keepG g l = some r → ∀ q ∈ r, q.1 ∈ l ∧ lasts q.2 = true ∧ gt g q.1 = q.2
 | [], r, h, q, hq => by cases h; cases hq
 | k :: l, r, h, q, hq => by
     simp only [keepG] at h
     split at h
     ·rename_i τ x hx
      obtain ⟨r', hr, rfl⟩ := Option.map_eq_some_iff.1 h
      rcases List.mem_cons.1 hq with rfl | hq
      ·exact ⟨List.mem_cons_self .., rfl, hx⟩
      ·obtain ⟨h1, h2⟩ := keepG_ok hr q hq
       exact ⟨List.mem_cons_of_mem _ h1, h2⟩
     ·rename_i f p hx
      cases hb : p.all isV with
      | false => rw [hb] at h; cases h
      | true =>
      rw [hb] at h
      obtain ⟨r', hr, rfl⟩ := Option.map_eq_some_iff.1 h
      rcases List.mem_cons.1 hq with rfl | hq
      ·exact ⟨List.mem_cons_self .., hb, hx⟩
      ·obtain ⟨h1, h2⟩ := keepG_ok hr q hq
       exact ⟨List.mem_cons_of_mem _ h1, h2⟩
     ·cases h
theorem J.keep {c : Code} {st : St} {kg r : List (Nat × AV)} {kp : List Nat} {Q : Exit → St → Prop} (hk : KG C kg) (hr : keepG st.g kp = some r)
  (h : ∀ C' : Ctx, C'.n = C.n → C'.pin = kp ++ C.pin → KG C' (r ++ kg) → (∀ s, SelfC C s → SelfC C' s) → J E C' c st Q) : J E C c st Q := by
 rintro a w ⟨I, rt, fp, hR⟩ hd
 let C' : Ctx := { I0 := I, B := C.B, F0 := fun b => ∃ id t, lk st.h id = some t ∧ b ∈ fp id, w0 := w, n := C.n, pin := kp ++ C.pin, vs := fun k => a.tmps.getD k undef }
 have hR' : RelAt C' st a.tmps w I rt fp :=
  {n := hR.n, i0 := fun _ h => h, i1 := fun _ h => .inl h, ib := hR.ib,
   tree := fun id t ht => ⟨(hR.tree id t ht).1, (hR.tree id t ht).2.1, fun b hb => ⟨((hR.tree id t ht).2.2 b hb).1, ((hR.tree id t ht).2.2 b hb).2.1, ((hR.tree id t ht).2.2 b hb).2.2.1, .inr ⟨id, t, ht, hb⟩⟩⟩,
   dis := hR.dis, tmp := hR.tmp, frame := fun _ _ _ => rfl, evo := fun _ _ => .refl _ _, size := Nat.le_refl _, os := rfl, tape := rfl, output := rfl, pin := fun k _ => rfl }
 have hkg : KG C' (r ++ kg) := by
  refine ⟨fun b hb => ⟨hR.ib b hb, ?_⟩, fun q hq => ?_⟩
  ·rintro ⟨id, t, ht, hbf⟩
   obtain ⟨q1, q2, _⟩ := (hR.tree id t ht).2.2 b hbf
   exact hb.elim q1 q2
  ·rcases List.mem_append.1 hq with hq | hq
   ·obtain ⟨h1, h2, h3⟩ := keepG_ok hr q hq
    refine ⟨List.mem_append.2 (.inl h1), h2, ?_⟩
    have := hR.tmp q.1
    rw [h3] at this
    exact this.monoOn (fun m b hm => ⟨hm, Sm.refl _ _⟩) (fun id hid => (lasts_ids h2 id hid).elim)
   ·obtain ⟨h1, h2, h3⟩ := hk.2 q hq
    refine ⟨List.mem_append.2 (.inr h1), h2, ?_⟩
    ·show AVok _ _ _ _ _ _ (a.tmps.getD q.1 undef)
     rw [hR.pin _ h1]
     refine h3.monoOn (fun m b hm => ?_) (fun id hid => (lasts_ids h2 id hid).elim)
     obtain ⟨q1, q2⟩ := hk.1 b (md_or hm)
     refine ⟨?_, Sm.of_heap (hR.frame b q1 q2)⟩
     cases m
     ·exact hR.i0 b hm
     ·exact hm.imp (hR.i0 b) id
 have hsc : ∀ s, SelfC C s → SelfC C' s := by
  rintro (_ | ⟨k, f, l⟩) hs
  ·trivial
  obtain ⟨s1, s2, b, o, us, s3, s4, s5, s6, s7⟩ := hs
  refine ⟨List.mem_append_right _ s1, fun j hj => List.mem_append_right _ (s2 j hj), b, o, us, (hR.pin k s1).trans s3, Nat.lt_of_lt_of_le s4 hR.size, ?_, ?_, ?_⟩
  ·rintro ⟨id, t, ht, hb⟩
   rcases ((hR.tree id t ht).2.2 b hb).2.2.2 with h1 | h1
   ·omega
   ·exact s5 h1
  ·have hb := hR.frame b s4 s5
   rw [← s6]
   unfold World.cell?
   rw [show w.heap[(⟨b, o, none⟩ : Addr).block]? = C.w0.heap[(⟨b, o, none⟩ : Addr).block]? from hb]
  ·rw [s7]
   exact List.map_congr_left fun j hj => (hR.pin j (s2 j hj)).symm
 refine wp_mono (h C' rfl rfl hkg hsc a w ⟨I, rt, fp, hR'⟩ hd) ?_
 rintro e a' w' ⟨st', hq, ⟨I', rt', fp', hS⟩, hd'⟩
 have hF : ∀ b, C'.F0 b → C.w0.heap.size ≤ b ∨ C.F0 b := by
  rintro b ⟨id, t, ht, hb⟩
  exact ((hR.tree id t ht).2.2 b hb).2.2.2
 refine ⟨st', hq, ⟨I', rt', fp', ?_⟩, hd'⟩
 refine { n := hS.n, i0 := fun b hb => hS.i0 b (hR.i0 b hb), i1 := fun b hb => ?_, ib := hS.ib, tree := fun id t ht => ?_, dis := hS.dis, tmp := hS.tmp, frame := fun b h1 h2 => ?_, evo := fun b hb => (hR.evo b hb).trans (hS.evo b (Nat.lt_of_lt_of_le hb hR.size)), size := Nat.le_trans hR.size hS.size, os := hS.os.trans hR.os, tape := hS.tape.trans hR.tape, output := hS.output.trans hR.output, pin := fun k hk => ?_ }
 ·rcases hS.i1 b hb with h | h | h
  ·exact hR.i1 b h
  ·exact .inr (.inl (Nat.le_trans hR.size h))
  ·exact .inr (hF b h)
 ·obtain ⟨q1, q2, q3⟩ := hS.tree id t ht
  refine ⟨q1, q2, fun b hb => ?_⟩
  obtain ⟨r1, r2, r3, r4⟩ := q3 b hb
  refine ⟨r1, r2, r3, ?_⟩
  rcases r4 with h | h
  ·exact .inl (Nat.le_trans hR.size h)
  ·exact hF b h
 ·refine (hS.frame b (Nat.lt_of_lt_of_le h1 hR.size) ?_).trans (hR.frame b h1 h2)
  intro hf
  rcases hF b hf with h | h
  ·omega
  ·exact h2 h
 ·rw [hS.pin k (List.mem_append.2 (.inr hk))]
  exact hR.pin k hk
end
end Go.Fw
end
section
namespace Go.Fw
structure Eff where
 d : Option (Nat × AV)
 S : List Nat
 keep : List (Nat × List Step)
 put : List (Nat × Tree)
def killE (S : List Nat) (keep : List (Nat × List Step)) (g : List (Nat × AV)) : List (Nat × AV) := match S with
 | [] => g
 | _ => kill S keep g
def delE (S : List Nat) (h : List (Nat × Tree)) : List (Nat × Tree) := match S with
 | [] => h
 | _ => del S h
def Eff.app (e : Eff) (st : St) : St := ⟨match e.d with
 | some q => q :: killE e.S e.keep st.g
 | none => killE e.S e.keep st.g, e.put ++ delE e.S st.h⟩
theorem kill1q_nil (keep : List (Nat × List Step)) (a : AV) : kill1 [] keep a = a := by
 have hb : ∀ a, kill1b [] keep a = a := fun a => by
  have : (a.ids.any fun i => memN i []) = false := by
   rw [List.any_eq_false]; intro i _; simp [memN]
  simp only [kill1b, AV.uses, this, Bool.false_and, cond_false]
 cases a with
 | tup l => simp only [kill1, List.map_congr_left (fun a _ => hb a), List.map_id']
 | _ => exact hb _
theorem kill_nil (keep : List (Nat × List Step)) : ∀ g : List (Nat × AV), kill [] keep g = g
 | [] => rfl
 | (k, a) :: g => by
     have := kill_nil keep g
     simp only [kill, List.map_cons, kill1q_nil] at this ⊢
     rw [this]
theorem del_nil : ∀ h : List (Nat × Tree), del [] h = h
 | [] => rfl
 | x :: h => by
     have := del_nil h
     simp only [del] at this ⊢
     rw [List.filter_cons, if_pos (by simp [memN]), this]
theorem killE_eq (S : List Nat) (keep : List (Nat × List Step)) (g : List (Nat × AV)) : killE S keep g = kill S keep g := by
 cases S
 ·exact (kill_nil keep g).symm
 ·rfl
theorem delE_eq (S : List Nat) (h : List (Nat × Tree)) : delE S h = del S h := by
 cases S
 ·exact (del_nil h).symm
 ·rfl
def stoE {β : Type} (tt : List (TypeId × Ty)) (h : List (Nat × Tree)) (T : TypeId) (x v : AV) (K : Eff → Option β) : Option β :=
 match placeOf h x with
 | none => none
 | some (id, p) => match lk h id, lk tt T with
   | some τz, some u => match tyAt τz.1 p with
     | none => none
     | some τ' => bif sameLay u τ' then match v with
       | .ref id2 p2 => match lk h id2 with
         | some τy => bif Nat.beq id id2 then none else (getF τy.1 τy.2 p2 τ').bind fun y => (setF τz.1 τz.2 p τ' y).bind fun z' => K ⟨none, [id, id2], [(id, p)], [(id, ⟨τz.1, z'⟩)]⟩
         | none => none
       | .app id2 p2 σ ys own => match castT (τ := .osl σ) τ' ys with
         | some _ => bif Nat.beq id2 id && pathEq p2 p then (getF τz.1 τz.2 p (.osl σ)).bind fun xs => (setF τz.1 τz.2 p (.osl σ) (xs ++ ys)).bind fun z' => K ⟨none, id :: own, [(id, p)], [(id, ⟨τz.1, z'⟩)]⟩ else none
         | none => none
       | v => match coe τ' v with
         | some y => (setF τz.1 τz.2 p τ' y).bind fun z' => K ⟨none, [id], [(id, p)], [(id, ⟨τz.1, z'⟩)]⟩
         | none => none
     else none
   | _, _ => none
theorem stoE_ok {β : Type} {r : β} {K : Eff → Option β} {tt : List (TypeId × Ty)} {st : St} {T : TypeId} {x v : AV} {Q : St → Prop} (h : stoE tt st.h T x v K = some r) (hq : ∀ e, K e = some r → Q (e.app st)) : (stoF tt st T x v).K Q := by
 unfold stoE at h
 unfold stoF
 split at h
 ·cases h
 rename_i id p hp
 rw [hp]
 simp only
 split at h
 case h_2 => cases h
 rename_i τz u ht hT
 obtain ⟨τ, z⟩ := τz
 rw [ht, hT]
 simp only at h ⊢
 split at h
 ·cases h
 rename_i τ' hτ
 rw [hτ]
 simp only
 cases hb : sameLay u τ' with
 | false => rw [hb] at h; cases h
 | true =>
 rw [hb] at h
 simp only [cond_true] at h ⊢
 split at h
 ·rename_i id2 p2
  split at h
  case h_2 => cases h
  rename_i τy ht2
  obtain ⟨τ2, y2⟩ := τy
  cases hbe : Nat.beq id id2 with
  | true => rw [hbe] at h; cases h
  | false =>
  rw [hbe] at h
  obtain ⟨y, hy, h⟩ := Option.bind_eq_some_iff.1 h
  obtain ⟨z', hz, h⟩ := Option.bind_eq_some_iff.1 h
  simp only [ht2, hbe, cond_false]
  exact ⟨(y, z'), ⟨getF_ok hy, setF_ok hz⟩, hq _ h⟩
 ·rename_i id2 p2 σ ys own
  split at h
  case h_2 => cases h
  rename_i y hy
  cases castT_some hy
  cases hbe : (Nat.beq id2 id && pathEq p2 p) with
  | false => rw [hbe] at h; cases h
  | true =>
  rw [hbe] at h
  simp only [Bool.and_eq_true] at hbe
  obtain ⟨xs, hx, h⟩ := Option.bind_eq_some_iff.1 h
  obtain ⟨z', hz, h⟩ := Option.bind_eq_some_iff.1 h
  simp only [dif_pos]
  exact ⟨(xs, z'), ⟨Nat.eq_of_beq_eq_true hbe.1, pathEq.ok hbe.2, getF_ok hx, setF_ok hz⟩, hq _ h⟩
 ·rename_i v h1 h2
  split at h
  case h_2 => cases h
  rename_i y hy
  obtain ⟨z', hz, h⟩ := Option.bind_eq_some_iff.1 h
  split
  ·rename_i id2 p2; exact (h1 id2 p2 rfl).elim
  ·rename_i id2 p2 σ ys own; exact (h2 id2 p2 σ ys own rfl).elim
  ·rw [hy]; exact ⟨z', setF_ok hz, hq _ h⟩
def ysN (h : List (Nat × Tree)) (σ : Ty) (y : AV) : Option (List σ.den) :=
 match y with
 | .val (.slc _ t) ys => castT (τ := .osl t) (.osl σ) ys
 | .cv (.slice none 0 0) => some []
 | .ref id p => match lk h id with
   | some τx => bif σ.pure then getF τx.1 τx.2 p (.osl σ) else none
   | none => none
 | .view id p lo hi => match lk h id with
   | some τx => bif σ.pure then (getF τx.1 τx.2 p (.osl σ)).bind fun ys => some ((ys.take hi).drop lo) else none
   | none => none
 | _ => none
def YRes.Is {σ : Ty} (r : YRes σ) (ys : List σ.den) : Prop :=
 match r with
 | .tot z => z = ys
 | .part _ φ f => ∃ q, φ q ∧ f q = ys
 | .bad => False
theorem ysN_ok {h : List (Nat × Tree)} {σ : Ty} {y : AV} {ys : List σ.den} (hy : ysN h σ y = some ys) : (ysF h σ y).Is ys := by
 unfold ysN at hy
 unfold ysF
 split at hy
 ·rename_i m t zs
  cases castT_some hy
  simp only [dif_pos]
  rfl
 ·cases hy; rfl
 ·rename_i id p
  split at hy
  case h_2 => cases hy
  rename_i τx ht
  obtain ⟨τ, x⟩ := τx
  simp only [ht]
  cases hp : σ.pure with
  | false => rw [hp] at hy; cases hy
  | true => rw [hp] at hy; exact ⟨ys, getF_ok hy, rfl⟩
 ·rename_i id p lo hi
  split at hy
  case h_2 => cases hy
  rename_i τx ht
  obtain ⟨τ, x⟩ := τx
  simp only [ht]
  cases hp : σ.pure with
  | false => rw [hp] at hy; cases hy
  | true =>
    rw [hp] at hy
    obtain ⟨zs, hz, hy⟩ := Option.bind_eq_some_iff.1 hy
    cases hy
    exact ⟨zs, getF_ok hz, rfl⟩
 ·cases hy
theorem YRes.Is.to {σ : Ty} {r : YRes σ} {ys : List σ.den} (h : r.Is ys) {g : Nat → Prop} {f : List σ.den → St} {Q : St → Prop} (hg : g ys.length) (hq : Q (f ys)) : (r.to g f).K Q := by
 cases r with
 | tot z => obtain rfl : z = ys := h; exact ⟨(), hg, hq⟩
 | part α φ k => obtain ⟨q, h1, rfl⟩ := h; exact ⟨q, ⟨h1, hg⟩, hq⟩
 | bad => exact h.elim
def appE {β : Type} (tt : List (TypeId × Ty)) (an : List (Nat × Ty)) (h : List (Nat × Tree)) (d : Nat) (T : TypeId) (x y : AV) (K : Eff → Option β) : Option β :=
 match isSlcT tt T with
 | none => none
 | some u => match x with
   | .ref id [] => match lk h id with
     | some ⟨.osl σ, xs⟩ => bif sameLay u σ && Nat.ble σ.size 1300 then
        match σ.pure with
        | true => (ysN h σ y).bind fun ys => (limO (xs.length + ys.length)).bind fun _ => K ⟨some (d, .ref d []), [id, d], [], [(d, ⟨.osl σ, xs ++ ys⟩)]⟩
        | false => match y with
          | .ref id2 [] => match lk h id2 with
            | some τy => match castT (.osl σ) τy.2 with
              | some ys => bif Nat.beq id id2 then none else (limO (xs.length + List.length (α := σ.den) ys)).bind fun _ => K ⟨some (d, .ref d []), [id, id2, d], [], [(d, ⟨.osl σ, List.append (α := σ.den) xs ys⟩)]⟩
              | none => none
            | none => none
          | _ => none
       else none
     | _ => none
   | .ref id p => match lk h id, lk h d with
     | some τx, none => match tyAt τx.1 p with
       | some (.osl σ) => bif sameLay u σ && Nat.ble σ.size 1300 && σ.nb then
          (getF τx.1 τx.2 p (.osl σ)).bind fun xs => (ysN h σ y).bind fun ys => (limO (List.length (α := σ.den) xs + ys.length)).bind fun _ =>
            K ⟨some (d, .app id p σ ys [d]), [id], [(id, p), (id, [])], [(d, ⟨.blk, ()⟩), (id, τx)]⟩
         else none
       | _ => none
     | _, _ => none
   | .view id [] lo hi => match lk h id with
     | some ⟨.osl σ, xs⟩ => bif sameLay u σ && Nat.ble σ.size 1300 then
        (ysN h σ y).bind fun ys => (limO (List.length (α := σ.den) ((xs.take hi).drop lo) + ys.length)).bind fun _ => K ⟨some (d, .ref d []), [id, d], [], [(d, ⟨.osl σ, (xs.take hi).drop lo ++ ys⟩)]⟩
       else none
     | _ => none
   | .cv (.slice none 0 0) => match lk an d with
     | some (.osl σ) => bif sameLay u σ && Nat.ble σ.size 1300 then
        (ysN h σ y).bind fun ys => (limO ys.length).bind fun _ => K ⟨some (d, .ref d []), [d], [], [(d, ⟨.osl σ, ys⟩)]⟩
       else none
     | _ => none
   | _ => none
theorem appE_ok {β : Type} {r : β} {K : Eff → Option β} {tt : List (TypeId × Ty)} {an : List (Nat × Ty)} {st : St} {d : Nat} {T : TypeId} {x y : AV} {Q : St → Prop} (h : appE tt an st.h d T x y K = some r) (hq : ∀ e, K e = some r → Q (e.app st)) : (appF tt an st d T x y).K Q := by
 unfold appE at h
 unfold appF
 split at h
 ·cases h
 rename_i u hu
 rw [hu]
 simp only
 split at h
 ·rename_i id
  simp only
  split at h
  case h_2 => cases h
  rename_i σ xs ht
  rw [ht]
  simp only
  cases hb : (sameLay u σ && Nat.ble σ.size 1300) with
  | false => rw [hb] at h; cases h
  | true =>
  rw [hb] at h
  simp only [cond_true] at h ⊢
  split at h
  ·rename_i hp
   rw [hp]
   obtain ⟨ys, hy, h⟩ := Option.bind_eq_some_iff.1 h
   obtain ⟨_, hl, h⟩ := Option.bind_eq_some_iff.1 h
   exact (ysN_ok hy).to (limO_some hl) (hq _ h)
  ·rename_i hp
   rw [hp]
   split at h
   case h_2 => cases h
   rename_i id2
   split at h
   case h_2 => cases h
   rename_i τy ht2
   obtain ⟨τ2, y2⟩ := τy
   split at h
   case h_2 => cases h
   rename_i ys hy
   cases castT_some hy
   cases hbe : Nat.beq id id2 with
   | true => rw [hbe] at h; cases h
   | false =>
   rw [hbe] at h
   obtain ⟨_, hl, h⟩ := Option.bind_eq_some_iff.1 h
   simp only [ht2, dif_pos, hbe, cond_false]
   exact ⟨(), limO_some hl, hq _ h⟩
 ·rename_i id p hp
  split at h
  case h_2 => cases h
  rename_i τx ht hdn
  obtain ⟨τ, z⟩ := τx
  simp only at h
  split at h
  case h_2 => cases h
  rename_i σ hτ
  cases hb : (sameLay u σ && Nat.ble σ.size 1300 && σ.nb) with
  | false => rw [hb] at h; cases h
  | true =>
  rw [hb] at h
  obtain ⟨xs, hx, h⟩ := Option.bind_eq_some_iff.1 h
  obtain ⟨ys, hy, h⟩ := Option.bind_eq_some_iff.1 h
  obtain ⟨_, hl, h⟩ := Option.bind_eq_some_iff.1 h
  have hl := limO_some hl
  have hy := ysN_ok hy
  have hx := getF_ok hx
  cases p with
  | nil => exact (hp rfl).elim
  | cons s p =>
  simp only [ht, hdn, hτ, hb, cond_true]
  split
  ·rename_i zs hz
   rw [hz] at hy
   obtain rfl : zs = ys := hy
   exact ⟨xs, ⟨hx, hl⟩, hq _ h⟩
  ·rename_i α φ f hz
   rw [hz] at hy
   obtain ⟨q, h1, rfl⟩ := hy
   exact ⟨(xs, q), ⟨hx, h1, hl⟩, hq _ h⟩
  ·rename_i hz
   rw [hz] at hy
   exact hy.elim
 ·rename_i id lo hi
  simp only
  split at h
  case h_2 => cases h
  rename_i σ xs ht
  rw [ht]
  simp only
  cases hb : (sameLay u σ && Nat.ble σ.size 1300) with
  | false => rw [hb] at h; cases h
  | true =>
  rw [hb] at h
  simp only [cond_true] at h ⊢
  obtain ⟨ys, hy, h⟩ := Option.bind_eq_some_iff.1 h
  obtain ⟨_, hl, h⟩ := Option.bind_eq_some_iff.1 h
  exact (ysN_ok hy).to (limO_some hl) (hq _ h)
 ·simp only
  split at h
  case h_2 => cases h
  rename_i σ han
  rw [han]
  simp only
  cases hb : (sameLay u σ && Nat.ble σ.size 1300) with
  | false => rw [hb] at h; cases h
  | true =>
  rw [hb] at h
  simp only [cond_true] at h ⊢
  obtain ⟨ys, hy, h⟩ := Option.bind_eq_some_iff.1 h
  obtain ⟨_, hl, h⟩ := Option.bind_eq_some_iff.1 h
  exact (ysN_ok hy).to (limO_some hl) (hq _ h)
 ·cases h
def asgE (an : List (Nat × Ty)) (h : List (Nat × Tree)) (d : Nat) (v : AV) : Option Eff :=
 match v with
 | .ref id [] => match lk h id with
   | some t => some ⟨some (d, .ref d []), [id, d], [], [(d, t)]⟩
   | none => none
 | .ref id p => bif Nat.beq id d then none else some ⟨some (d, .ref id p), [d], [], []⟩
 | .view id [] lo hi => match lk h id with
   | some ⟨.osl t, xs⟩ => some ⟨some (d, .ref d []), [id, d], [], [(d, ⟨.osl t, (xs.take hi).drop lo⟩)]⟩
   | _ => none
 | .cv (.slice none 0 0) => match lk an d with
   | some (.osl t) => some ⟨some (d, .ref d []), [d], [], [(d, ⟨.osl t, []⟩)]⟩
   | _ => none
 | _ => none
theorem asgE_ok {an : List (Nat × Ty)} {st : St} {d : Nat} {v : AV} {e : Eff} {Q : St → Prop} (h : asgE an st.h d v = some e) (hq : Q (e.app st)) : (asgF an st d v).K Q := by
 unfold asgE at h
 unfold asgF
 split at h
 ·split at h
  ·rename_i t ht; cases h; simp only [ht]; exact hq
  ·cases h
 ·rename_i id p hp
  cases hb : Nat.beq id d with
  | true => rw [hb] at h; cases h
  | false =>
  rw [hb] at h
  cases h
  cases p with
  | nil => exact (hp rfl).elim
  | cons s p => simp only [hb, cond_false]; exact hq
 ·split at h
  ·rename_i t xs ht; cases h; simp only [ht]; exact hq
  ·cases h
 ·split at h
  ·rename_i t ht; cases h; simp only [ht]; exact hq
  ·cases h
 ·cases h
end Go.Fw
end
section
namespace Go.Fw
section
variable {E : Env} {C : Ctx} {st : St} {a : Act} {w w' : World} {I : Nat → Prop} {rt : Nat → List Value} {fp : Nat → List Nat} {o : Oper} {Q : St → Prop}
theorem OK1.own {S : List Nat} {t : Tree} {cs : List Value} {f : List Nat} {d : Nat} {v : Value} {next : Act → World → Prop} {X : Exit → Act → World → Prop} (hd : o.dst = some d) (hdn : C.ok d) (hR : RelAt C st a.tmps w I rt fp)
  (hnext : ∀ st' a' w', Q st' → a'.defers = a.defers → Rel C st' a'.tmps w' → next a' w') (hdS : d ∈ S ∨ lk st.h d = none) (hrun : (execOp a.eval o).run E.P w = .ok (.value v) w') (hg : Grew w w') (hv : v = regV t.1 cs)
  (hr : Rep (md I C.B) w' t.1 cs t.2 f) (hf : f.Nodup) (hb : ∀ b ∈ f, (w.heap.size ≤ b ∧ b < w'.heap.size) ∨ ∃ id' ∈ S, ∃ t', lk st.h id' = some t' ∧ b ∈ fp id')
  (hq : Q ⟨(d, .ref d []) :: kill S [] st.g, (d, t) :: del S st.h⟩) : o.wp E.P a w next X := by
 have hu := hR.upd (UpdOk.one (st := st) (C := C) (rt := rt) (w' := w') (I' := I) (S := S) (d := d) (t := t) (cs := cs) (f := f) hdS hg.size hg.os hg.tape hg.output (fun b hb _ => hg.heap b hb) (fun b hb => (Sm.of_heap (hg.heap b hb)).2) (fun _ h => h) (fun _ h => .inl h) hr hf (fun b hb' => by
  rcases hb b hb' with ⟨h1, h2⟩ | ⟨i, hi, u, hu, hbi⟩
  ·exact ⟨fun h => by have := hR.ib b (.inl h); omega, h2, .inl h1⟩
  ·obtain ⟨q1, q2, q3, q4⟩ := (hR.tree i u hu).2.2 b hbi
   exact ⟨q1, Nat.lt_of_lt_of_le q3 hg.size, .inr ⟨i, hi, u, hu, hbi⟩⟩))
 unfold Oper.wp
 rw [hrun]
 show next (a.put o.dst v) w'
 rw [hd]
 refine hnext _ _ _ hq rfl ⟨_, _, _, hu.put hdn (av := .ref d []) ?_⟩
 rw [hv]
 refine .ref (t := t) (loc := none) (by rw [lk_append, lk_cons, if_pos rfl]; rfl) ?_
 rw [mixv_one]
 exact Nav.here
def partO (h : List (Nat × Tree)) (a : Ty) : AV → Option (Tree × List Nat)
 | .val τ y => bif sameLay a τ then some (⟨τ, y⟩, []) else none
 | .cv v => match cvC a v.cells.toList with
   | some y => some (⟨a, y⟩, [])
   | none => none
 | .ref id [] => match lk h id with
   | some t => bif sameLay a t.1 then some (t, [id]) else none
   | none => none
 | _ => none
theorem partO_rep {P : Program} {M : Md → Nat → Prop} {h : List (Nat × Tree)} (hh : ∀ id t, lk h id = some t → Rep M w t.1 (rt id) t.2 (fp id)) {a : Ty} {T : TypeId} (hT : TyF P a T) {av : AV} {v : Value} (hv : AVok M w h rt fp av v)
  {t : Tree} {ids : List Nat} (hp : partO h a av = some (t, ids)) : Rep M w t.1 v.cells.toList t.2 (ids.map fp).flatten ∧ t.1.size = a.size ∧ ∀ id ∈ ids, ∃ u, lk h id = some u := by
 unfold partO at hp
 split at hp
 ·rename_i τ y
  cases hb : sameLay a τ with
  | false => rw [hb] at hp; cases hp
  | true =>
    rw [hb] at hp
    cases hp
    cases hv with | val r =>
    rw [regV_cells (hT.lay hb) r.len r.one]
    exact ⟨r, (sameLay.size hb).symm, by simp⟩
 ·rename_i v'
  split at hp
  ·rename_i y hy
   cases hp
   cases hv
   exact ⟨cvC_rep hy, rfl, by simp⟩
  ·cases hp
 ·rename_i id
  split at hp
  ·rename_i t' ht
   cases hb : sameLay a t'.1 with
   | false => rw [hb] at hp; cases hp
   | true =>
     rw [hb] at hp
     cases hp
     cases hv with | ref ht' hn =>
     rw [ht] at ht'; cases ht'
     obtain ⟨rfl, rfl, rfl⟩ := Nav.nil_iff.1 hn
     have r := hh id _ ht
     rw [regV_cells (hT.lay hb) r.len r.one]
     refine ⟨by simpa using r, (sameLay.size hb).symm, ?_⟩
     intro i hi
     rw [List.mem_singleton] at hi
     subst hi
     exact ⟨_, ht⟩
  ·cases hp
 ·cases hp
def mkO (h : List (Nat × Tree)) (g : Operand → AV) (parts : List (Nat × Operand)) : Ty → Nat → Option (Tree × List Nat)
 | .pr a b, n =>
   match (match pk parts n with
    | none => match zeroD a with
      | some z => some ((⟨a, z⟩ : Tree), ([] : List Nat))
      | none => none
    | some x => partO h a (g x)), mkO h g parts b (n + 1) with
   | some x, some y => some (⟨.pr x.1.1 y.1.1, (x.1.2, y.1.2)⟩, x.2 ++ y.2)
   | _, _ => none
 | .nil, _ => some (⟨.nil, ()⟩, [])
 | _, _ => none
theorem mkO_rep {P : Program} {M : Md → Nat → Prop} {h : List (Nat × Tree)} (hh : ∀ id t, lk h id = some t → Rep M w t.1 (rt id) t.2 (fp id)) {g : Operand → AV} {ev : Operand → Value} (hg : ∀ x, AVok M w h rt fp (g x) (ev x)) {parts : List (Nat × Operand)} {cells : List Value} :
  ∀ {u : Ty} {n : Nat} {fs : List Field} {off : Nat} {zs : List Value} {t : Tree} {ids : List Nat}, FldF P u fs off zs → mkO h g parts u n = some (t, ids) → cells.length = off + u.size →
    (∀ m s τ, fldSteps u m = some (s, τ) → (∀ x, pk parts (n + m) = some x → (ev x).cells.size = τ.size ∧ (cells.drop (off + fldOff u m)).take τ.size = (ev x).cells.toList) ∧ (pk parts (n + m) = none → (cells.drop (off + fldOff u m)).take τ.size = (zs.drop (fldOff u m)).take τ.size)) →
    Rep M w t.1 (cells.drop off) t.2 (ids.map fp).flatten ∧ t.1.size = u.size ∧ ∀ id ∈ ids, ∃ u, lk h id = some u
 | .pr a b, n, f :: r, off, zs, t, ids, hF, hm, hl, hc => by
    simp only [mkO] at hm
    split at hm
    case h_2 => cases hm
    rename_i x y hx hy
    cases hm
    obtain ⟨h1, h2, h3, ⟨i, z, q1, q2, q3⟩, h5⟩ := hF
    have hc0 := hc 0 _ a rfl
    simp only [Nat.add_zero, fldOff, List.drop_zero] at hc0
    have hA : Rep M w x.1.1 ((cells.drop off).take a.size) x.1.2 (x.2.map fp).flatten ∧ x.1.1.size = a.size ∧ ∀ id ∈ x.2, ∃ u, lk h id = some u := by
     split at hx
     ·rename_i hp
      split at hx
      ·rename_i z' hz
       cases hx
       obtain ⟨i', zv, r1, r2, _, r4⟩ := zero_rep h2 hz
       rw [q1] at r1; cases r1
       rw [q2] at r2; cases r2
       rw [hc0.2 hp, q3]
       exact ⟨r4 M w, rfl, by simp⟩
      ·cases hx
     ·rename_i p hp
      obtain ⟨k1, k2⟩ := hc0.1 p hp
      rw [k2]
      exact partO_rep hh h2 (hg p) hx
    have hB := mkO_rep hh hg (parts := parts) (cells := cells) (u := b) (n := n + 1) (off := off + a.size) (zs := zs.drop a.size) (t := y.1) (ids := y.2) h5 hy (by rw [hl]; simp only [Ty.size]; omega) (by
     intro m s τ hs
     have := hc (m + 1) (.snd :: s) τ (by simp [fldSteps, hs])
     simp only [fldOff] at this
     rw [show n + (m + 1) = n + 1 + m by omega, show off + (a.size + fldOff b m) = off + a.size + fldOff b m by omega] at this
     rw [List.drop_drop]
     exact this)
    refine ⟨⟨(x.2.map fp).flatten, (y.2.map fp).flatten, by simp, ?_, ?_⟩, by simp only [Ty.size]; omega, ?_⟩
    ·rw [hA.2.1]; exact hA.1
    ·rw [hA.2.1, List.drop_drop]; exact hB.1
    ·intro id hid
     rcases List.mem_append.1 hid with hid | hid
     ·exact hA.2.2 id hid
     ·exact hB.2.2 id hid
 | .nil, n, [], off, zs, t, ids, hF, hm, hl, hc => by
    cases hm
    exact ⟨⟨rfl, by rw [List.drop_eq_nil_iff]; simp only [Ty.size] at hl; omega⟩, rfl, by simp⟩
 | .pr _ _, _, [], _, _, _, _, h, _, _, _ => h.elim
 | .nil, _, _ :: _, _, _, _, _, h, _, _, _ => h.elim
 | .int _, _, _, _, _, _, _, h, _, _, _ => by cases h
 | .bool, _, _, _, _, _, _, h, _, _, _ => by cases h
 | .str, _, _, _, _, _, _, h, _, _, _ => by cases h
 | .slc _ _, _, _, _, _, _, _, h, _, _, _ => by cases h
 | .osl _, _, _, _, _, _, _, h, _, _, _ => by cases h
 | .ptr _ _, _, _, _, _, _, _, h, _, _, _ => by cases h
 | .optr _, _, _, _, _, _, _, h, _, _, _ => by cases h
 | .st _, _, _, _, _, _, _, h, _, _, _ => by cases h
 | .blk, _, _, _, _, _, _, h, _, _, _ => by cases h
theorem mkO_size {P : Program} {M : Md → Nat → Prop} {h : List (Nat × Tree)} (hh : ∀ id t, lk h id = some t → Rep M w t.1 (rt id) t.2 (fp id)) {g : Operand → AV} {ev : Operand → Value} (hg : ∀ x, AVok M w h rt fp (g x) (ev x)) {parts : List (Nat × Operand)} :
  ∀ {u : Ty} {n : Nat} {fs : List Field} {off : Nat} {zs : List Value} {t : Tree} {ids : List Nat}, FldF P u fs off zs → mkO h g parts u n = some (t, ids) →
    ∀ m s τ, fldSteps u m = some (s, τ) → ∀ x, pk parts (n + m) = some x → (ev x).cells.size = τ.size
 | .pr a b, n, f :: r, off, zs, t, ids, hF, hm, m, s, τ, hs, x, hp => by
    simp only [mkO] at hm
    split at hm
    case h_2 => cases hm
    rename_i x0 y0 hx hy
    obtain ⟨h1, h2, h3, ⟨i, z, q1, q2, q3⟩, h5⟩ := hF
    cases m with
    | zero =>
      simp only [fldSteps, Option.some.injEq, Prod.mk.injEq] at hs
      obtain ⟨_, rfl⟩ := hs
      rw [Nat.add_zero] at hp
      rw [hp] at hx
      obtain ⟨k1, k2, _⟩ := partO_rep (t := x0.1) (ids := x0.2) hh h2 (hg x) hx
      have := k1.len
      rw [k2] at this
      simpa using this
    | succ m =>
      simp only [fldSteps] at hs
      split at hs
      ·rename_i q hq
       simp only [Option.some.injEq, Prod.mk.injEq] at hs
       obtain ⟨_, rfl⟩ := hs
       exact mkO_size hh hg (u := b) (n := n + 1) (t := y0.1) (ids := y0.2) h5 hy m q.1 q.2 hq x (by rwa [show n + 1 + m = n + (m + 1) by omega])
      ·cases hs
 | .pr _ _, _, [], _, _, _, _, h, _, _, _, _, _, _, _ => h.elim
 | .nil, _, _, _, _, _, _, _, _, _, _, _, hs, _, _ => by cases hs
 | .int _, _, _, _, _, _, _, h, _, _, _, _, _, _, _ => by cases h
 | .bool, _, _, _, _, _, _, h, _, _, _, _, _, _, _ => by cases h
 | .str, _, _, _, _, _, _, h, _, _, _, _, _, _, _ => by cases h
 | .slc _ _, _, _, _, _, _, _, h, _, _, _, _, _, _, _ => by cases h
 | .osl _, _, _, _, _, _, _, h, _, _, _, _, _, _, _ => by cases h
 | .ptr _ _, _, _, _, _, _, _, h, _, _, _, _, _, _, _ => by cases h
 | .optr _, _, _, _, _, _, _, h, _, _, _, _, _, _, _ => by cases h
 | .st _, _, _, _, _, _, _, h, _, _, _, _, _, _, _ => by cases h
 | .blk, _, _, _, _, _, _, h, _, _, _, _, _, _, _ => by cases h
theorem build_run {T : TypeId} {parts : Array (Nat × Operand)} (ho : o.op = .build T parts) {u0 u : Ty} (hT : isStT E.tt T = some u0) (hul : sameLay u0 u = true ∨ u0 = u) (b1 : incr parts.toList 0 = true) (b2 : ∀ q ∈ parts.toList, Nat.blt q.1 (nFlds u) = true)
  (hsz : ∀ m s τ, fldSteps u m = some (s, τ) → ∀ x, pk parts.toList m = some x → (a.eval x).cells.size = τ.size) :
  ∃ fs zs r, FldF E.P u fs 0 zs ∧ (execOp a.eval o).run E.P w = .ok (.value (.agg r)) w ∧ r.toList.length = u.size ∧
    (∀ m s τ, fldSteps u m = some (s, τ) → (∀ x, pk parts.toList (0 + m) = some x → (a.eval x).cells.size = τ.size ∧ (r.toList.drop (0 + fldOff u m)).take τ.size = (a.eval x).cells.toList) ∧ (pk parts.toList (0 + m) = none → (r.toList.drop (0 + fldOff u m)).take τ.size = (zs.drop (fldOff u m)).take τ.size)) := by
 obtain ⟨i, fs, zs, h1, h2, h4, h5, h6, h7⟩ : ∃ i fs zs, E.P.info? T = some i ∧ i.size = u.size ∧ i.zero = some (.agg zs) ∧ E.P.underlying T = some (.struct fs) ∧ FldF E.P u fs.toList 0 zs.toList ∧ zs.size = u.size := by
  unfold isStT at hT
  split at hT
  ·rename_i u' hl
   cases hT
   obtain ⟨_, i, fs, zs, q1, q2, _, q4, q5, q6, q7⟩ := E.ok T _ hl
   rcases hul with hul | rfl
   ·have hs := sameLay.size hul
    exact ⟨i, fs, zs, q1, by rw [← hs]; exact q2, q4, q5, FldF.lay hul q6, by rw [← hs]; exact q7⟩
   ·exact ⟨i, fs, zs, q1, q2, q4, q5, q6, q7⟩
  ·cases hT
 have hpl := run_places (P := E.P) w u fs.toList 0 zs.toList h6
 simp only [Nat.zero_add] at hpl
 generalize hpls : ((List.range (nFlds u)).map fun n => (fldOff u n, match fldSteps u n with | some q => q.2.size | none => 0)) = pls at hpl
 have hplace : ∀ n s τ, fldSteps u n = some (s, τ) → n < nFlds u → pls.toArray[n]? = some (fldOff u n, τ.size) := by
  intro n s τ hs hn
  rw [← hpls]
  simp [hn, hs]
 obtain ⟨r, r1, r2, r3, r4⟩ := fill_ok (fun i => pls.toArray[i]?) (parts.toList.map fun q => (q.1, a.eval q.2)) zs (by
  intro q hq
  obtain ⟨p, hp, rfl⟩ := List.mem_map.1 hq
  have hlt : p.1 < nFlds u := Nat.le_of_ble_eq_true (b2 p hp)
  obtain ⟨s, τ, hs⟩ := nFlds_lt h6 p.1 hlt
  refine ⟨_, _, hplace _ _ _ hs hlt, hsz _ _ _ hs p.2 ?_, by rw [h7]; exact fldSteps_le hs⟩
  exact incr_lk b1 hp) (by
  rw [List.pairwise_map]
  refine (incr_pw b1).imp_of_mem ?_
  intro q q' hq hq' hlt o1 s1 o2 s2 e1 e2
  have l1 : q.1 < nFlds u := Nat.le_of_ble_eq_true (b2 q hq)
  have l2 : q'.1 < nFlds u := Nat.le_of_ble_eq_true (b2 q' hq')
  obtain ⟨sa, ta, ha⟩ := nFlds_lt h6 q.1 l1
  obtain ⟨sb, tb, hb⟩ := nFlds_lt h6 q'.1 l2
  rw [hplace _ _ _ ha l1] at e1
  rw [hplace _ _ _ hb l2] at e2
  cases e1; cases e2
  exact .inl (fldOff_mono ha hb hlt))
 have hrl : r.toList.length = u.size := by simp [r2, h7]
 refine ⟨fs.toList, zs.toList, r, h6, ?_, hrl, ?_⟩
 ·have hpm : (Array.map (fun x => (x.fst, a.eval x.snd)) parts).toList = parts.toList.map fun q => (q.1, a.eval q.2) := by simp
  have hpl' : (fs.mapM fun f => do Pure.pure (f.offset, ← sizeOf f.type) : Sem (Array (Nat × Nat))).run E.P w = .ok pls.toArray w := by
   rw [Array.mapM_eq_mapM_toList, Sem.run_map, hpl]; rfl
  have hz : (zeroValue T).run E.P w = .ok (.agg zs) w := by simp [zeroValue, typeInfo, h1, h4]
  simp only [execOp, ho, Instr.build, Sem.run_bind, hz, run_underlying h5, Result.andThen_ok, hpl', hpm, Value.cells, r1]
  rfl
 ·intro m s τ hs
  have hm : m < nFlds u := fldSteps_lt hs
  simp only [Nat.zero_add]
  have hle := fldSteps_le hs
  refine ⟨fun x hx => ?_, fun hx => ?_⟩
  ·have hmem := lk_mem hx
   have hz := hsz m s τ hs x hx
   refine ⟨hz, ?_⟩
   apply List.ext_getElem?
   intro j
   rcases Nat.lt_or_ge j τ.size with hj | hj
   ·obtain ⟨v, hv⟩ : ∃ v, (a.eval x).cells[j]? = some v := ⟨_, Array.getElem?_eq_getElem (by omega)⟩
    have := r4 (m, a.eval x) (List.mem_map.2 ⟨(m, x), hmem, rfl⟩) _ _ (hplace _ _ _ hs hm) j v hv
    rw [List.getElem?_take_of_lt hj, List.getElem?_drop]
    simp only [Array.getElem?_toList]
    rw [this, hv]
   ·rw [List.getElem?_eq_none (by simp; omega), List.getElem?_eq_none (by simp; omega)]
  ·apply List.ext_getElem?
   intro j
   rcases Nat.lt_or_ge j τ.size with hj | hj
   ·rw [List.getElem?_take_of_lt hj, List.getElem?_take_of_lt hj, List.getElem?_drop, List.getElem?_drop]
    simp only [Array.getElem?_toList]
    refine r3 _ ?_
    intro q hq o1 s1 e1
    obtain ⟨p, hp, rfl⟩ := List.mem_map.1 hq
    have hne := lk_none hx p hp
    have l1 : p.1 < nFlds u := Nat.le_of_ble_eq_true (b2 p hp)
    obtain ⟨sa, ta, ha⟩ := nFlds_lt h6 p.1 l1
    rw [hplace _ _ _ ha l1] at e1
    cases e1
    rcases Nat.lt_or_gt_of_ne hne with hlt | hgt
    ·have := fldOff_mono ha hs hlt; omega
    ·have := fldOff_mono hs ha hgt; omega
   ·rw [List.getElem?_eq_none (by simp; omega), List.getElem?_eq_none (by simp; omega)]
theorem RelAt.fps {tm : Array Value} (hR : RelAt C st tm w I rt fp) : ∀ {ids : List Nat}, ids.Nodup → (∀ id ∈ ids, ∃ u, lk st.h id = some u) → (ids.map fp).flatten.Nodup
 | [], _, _ => by simp
 | i :: ids, hn, hh => by
     obtain ⟨h1, h2⟩ := List.nodup_cons.1 hn
     obtain ⟨u, hu⟩ := hh i (by simp)
     simp only [List.map_cons, List.flatten_cons]
     refine List.nodup_append.2 ⟨(hR.tree i u hu).2.1, RelAt.fps hR h2 (fun id hid => hh id (by simp [hid])), fun b hb c hc e => ?_⟩
     subst e
     obtain ⟨l, hl, hbl⟩ := List.mem_flatten.1 hc
     obtain ⟨j, hj, rfl⟩ := List.mem_map.1 hl
     obtain ⟨v, hv⟩ := hh j (by simp [hj])
     exact hR.dis i j u v hu hv (fun e => h1 (e ▸ hj)) b hb hbl
theorem mem_fps {ids : List Nat} {b : Nat} (hb : b ∈ (ids.map fp).flatten) : ∃ id ∈ ids, b ∈ fp id := by
 obtain ⟨l, hl, hbl⟩ := List.mem_flatten.1 hb
 obtain ⟨j, hj, rfl⟩ := List.mem_map.1 hl
 exact ⟨j, hj, hbl⟩
def bldE {β : Type} (tt : List (TypeId × Ty)) (an : List (Nat × Ty)) (h : List (Nat × Tree)) (g : Operand → AV) (d : Nat) (T : TypeId) (parts : List (Nat × Operand)) (K : Eff → Option β) : Option β :=
 match isStT tt T with
 | none => none
 | some u => match lk an d with
   | some (.st u') => bif sameLay u u' && (incr parts 0 && parts.all (fun q => Nat.blt q.1 (nFlds u'))) then match lk h d, mkO h g parts u' 0 with
      | none, some (t, ids) => bif nodupB ids then K ⟨some (d, .ref d []), ids, [], [(d, ⟨.st t.1, t.2⟩)]⟩ else none
      | _, _ => none
     else none
   | _ => bif incr parts 0 && parts.all (fun q => Nat.blt q.1 (nFlds u)) then match mkSt g parts u 0 with
     | some t => K ⟨some (d, .val (.st t.1) t.2), [], [], []⟩
     | none => match lk h d, mkO h g parts u 0 with
       | none, some (t, ids) => bif nodupB ids then K ⟨some (d, .ref d []), ids, [], [(d, ⟨.st t.1, t.2⟩)]⟩ else none
       | _, _ => none
     else none
theorem bldO_ok {β : Type} {r : β} {K : Eff → Option β} {d : Nat} {T : TypeId} {parts : Array (Nat × Operand)} (ho : o.op = .build T parts) (hd : o.dst = some d) (hdn : C.ok d) {u0 u : Ty} (hT : isStT E.tt T = some u0) (hul : sameLay u0 u = true ∨ u0 = u)
  (hb : (incr parts.toList 0 && parts.toList.all (fun q => Nat.blt q.1 (nFlds u))) = true)
  (h : (match lk st.h d, mkO st.h (opA st.g) parts.toList u 0 with
      | none, some (t, ids) => bif nodupB ids then K ⟨some (d, .ref d []), ids, [], [(d, ⟨.st t.1, t.2⟩)]⟩ else none
      | _, _ => none) = some r)
  (hq : ∀ e, K e = some r → Q (e.app st)) : OK1 E C o st Q := by
 split at h
 case h_2 => cases h
 rename_i t ids hdn0 ht
 cases hnd : nodupB ids with
 | false => rw [hnd] at h; cases h
 | true =>
 rw [hnd] at h
 simp only [Bool.and_eq_true, List.all_eq_true] at hb
 obtain ⟨b1, b2⟩ := hb
 rintro a w ⟨I, rt, fp, hR⟩ next X hnext
 have hh : ∀ id t, lk st.h id = some t → Rep (md I C.B) w t.1 (rt id) t.2 (fp id) := fun id t ht => (hR.tree id t ht).1
 obtain ⟨fs, zs, rr, hF, hrun, hrl, hc⟩ := build_run (a := a) (w := w) ho hT hul b1 b2 (by
  obtain ⟨fs, zs, _, q⟩ := isStT.ok hT
  intro m s τ hs x hp
  exact mkO_size hh (fun x => hR.opA x) (hul.elim (fun h => FldF.lay h q) (fun h => h ▸ q)) ht m s τ hs x (by rwa [Nat.zero_add]))
 obtain ⟨g1, g2, g3⟩ := mkO_rep hh (fun x => hR.opA x) (cells := rr.toList) hF ht (by omega) hc
 rw [List.drop_zero] at g1
 refine OK1.own (S := ids) (t := ⟨.st t.1, t.2⟩) (cs := rr.toList) (f := (ids.map fp).flatten) hd hdn hR hnext (.inr hdn0) hrun (Grew.refl w) rfl g1 (hR.fps (nodupB.ok hnd) g3) (fun b hb => ?_) ?_
 ·obtain ⟨id, hid, hb⟩ := mem_fps hb
  obtain ⟨u, hu⟩ := g3 id hid
  exact .inr ⟨id, hid, u, hu, hb⟩
 ·have := hq _ h
  rw [show (Eff.mk (some (d, .ref d [])) ids [] [(d, ⟨.st t.1, t.2⟩)]).app st = ⟨(d, .ref d []) :: kill ids [] st.g, (d, ⟨.st t.1, t.2⟩) :: del ids st.h⟩ by
   show St.mk ((d, _) :: killE ids [] st.g) ([_] ++ delE ids st.h) = _
   rw [killE_eq, delE_eq]; rfl] at this
  exact this
theorem bldE_ok {β : Type} {r : β} {K : Eff → Option β} {d : Nat} {T : TypeId} {parts : Array (Nat × Operand)} {an : List (Nat × Ty)} (ho : o.op = .build T parts) (hd : o.dst = some d) (hdn : C.ok d) (h : bldE E.tt an st.h (opA st.g) d T parts.toList K = some r)
  (hq : ∀ e, K e = some r → Q (e.app st)) : OK1 E C o st Q := by
 unfold bldE at h
 split at h
 ·cases h
 rename_i u hT
 split at h
 ·rename_i u' han
  cases hb : (sameLay u u' && (incr parts.toList 0 && parts.toList.all (fun q => Nat.blt q.1 (nFlds u')))) with
  | false => rw [hb] at h; cases h
  | true =>
  rw [hb] at h
  simp only [cond_true] at h
  have hb' := hb
  rw [Bool.and_eq_true] at hb'
  exact bldO_ok ho hd hdn hT (.inl hb'.1) hb'.2 h hq
 cases hb : (incr parts.toList 0 && parts.toList.all (fun q => Nat.blt q.1 (nFlds u))) with
 | false => rw [hb] at h; cases h
 | true =>
 rw [hb] at h
 simp only [cond_true] at h
 split at h
 ·rename_i t ht
  refine OK1.eval (an := []) hd hdn ?_
  rw [ho]
  simp only [evalF, bldF, hT, hb, cond_true, ht]
  exact hq _ h
 exact bldO_ok ho hd hdn hT (.inr rfl) hb h hq
def boxE {β : Type} (tt : List (TypeId × Ty)) (an : List (Nat × Ty)) (h : List (Nat × Tree)) (d : Nat) (T : TypeId) (x : AV) (K : Eff → Option β) : Option β :=
 match lk tt T, lk h d with
 | some u, none => match x with
   | .val τ x => bif sameLay u τ then match lk an d with
      | some (.ptr .imm _) => K ⟨some (d, .val (.ptr .imm τ) (some x)), [], [], []⟩
      | _ => K ⟨some (d, .ref d []), [], [], [(d, ⟨.optr τ, x⟩)]⟩
     else none
   | .ref id [] => match lk h id with
     | some t => bif sameLay u t.1 then K ⟨some (d, .ref d []), [id], [], [(d, ⟨.optr t.1, t.2⟩)]⟩ else none
     | none => none
   | _ => none
 | _, _ => none
theorem boxE_ok {β : Type} {r : β} {K : Eff → Option β} {an : List (Nat × Ty)} {d : Nat} {T : TypeId} {x : Operand} (ho : o.op = .box T x) (hd : o.dst = some d) (hdn : C.ok d) (h : boxE E.tt an st.h d T (opA st.g x) K = some r)
  (hq : ∀ e, K e = some r → Q (e.app st)) : OK1 E C o st Q := by
 unfold boxE at h
 split at h
 case h_2 => cases h
 rename_i u hT hdn0
 split at h
 ·rename_i τ y ex
  cases hb : sameLay u τ with
  | false => rw [hb] at h; cases h
  | true =>
  rw [hb] at h
  simp only [cond_true] at h
  split at h
  ·rintro a w ⟨I, rt, fp, hR⟩ next X hnext
   have hx := hR.opA x
   rw [ex] at hx
   have hf := (E.ok T u hT).lay hb
   generalize hv : a.eval x = v at hx
   cases hx with | val rr =>
   rename_i cs
   have hM : ∀ m b, md I C.B m b → Sm w (w.alloc (.cells cs.toArray T)) b := fun m b hb => .of_heap ((Grew.alloc w _).heap b (hR.ib b (md_or hb)))
   have hyield : Yields E C st a w I rt fp o (fun av new => Q ⟨(d, av) :: st.g, new ++ st.h⟩) := by
    refine ⟨.pointer (some ⟨w.heap.size, 0, none⟩), w.alloc (.cells cs.toArray T), fun b => I b ∨ b = w.heap.size, fun _ => [], fun _ => [], .val (.ptr .imm τ) (some y), [], ?_, Grew.alloc w _, fun _ h => .inl h, ?_, .nil, ?_, hq _ h⟩
    ·simp [execOp, ho, hv, Instr.box, newVar, newRow, regV_cells hf rr.len rr.one]
    ·rintro b (h | rfl)
     ·exact .inl h
     ·exact .inr ⟨Nat.le_refl _, by simp⟩
    ·refine .val (τ := .ptr .imm τ) (x := some y) (cs := [.pointer (some ⟨w.heap.size, 0, none⟩)]) ⟨rfl, w.heap.size, 0, cs, rfl, .inr rfl, rr.len, At.alloc (fun j v hj => by simpa using hj), ?_⟩
     refine rr.mono (fun m b hb => ⟨?_, hM m b hb⟩) (by simp)
     cases m
     ·exact .inl hb
     ·exact hb.imp .inl (fun h => h)
   exact hyield.wp hR hd hdn (fun av new a' w' hq' hdf hr => hnext _ a' w' hq' hdf hr)
  ·refine OK1.eval (an := []) hd hdn ?_
   rw [ho]
   simp only [evalF, boxF, hT, hdn0, ex, hb, cond_true]
   exact hq _ h
 ·rename_i id ex
  split at h
  case h_2 => cases h
  rename_i t ht
  cases hb : sameLay u t.1 with
  | false => rw [hb] at h; cases h
  | true =>
  rw [hb] at h
  rintro a w ⟨I, rt, fp, hR⟩ next X hnext
  have hx := hR.opA x
  rw [ex] at hx
  obtain ⟨r1, r2, r3⟩ := hR.tree id t ht
  have hf := (E.ok T u hT).lay hb
  generalize hv : a.eval x = v at hx
  cases hx with | ref ht' hn =>
  rw [ht] at ht'; cases ht'
  obtain ⟨rfl, rfl, rfl⟩ := Nav.nil_iff.1 hn
  have hM : ∀ b, b < w.heap.size → Sm w (w.alloc (.cells (rt id).toArray T)) b := fun b hb => .of_heap ((Grew.alloc w _).heap b hb)
  have r1' : Rep (md I C.B) (w.alloc (.cells (rt id).toArray T)) t.1 (rt id) t.2 (fp id) := r1.mono (fun m b hb => ⟨hb, hM b (hR.ib b (md_or hb))⟩) (fun b hb => hM b (r3 b hb).2.2.1)
  refine OK1.own (S := [id]) (t := ⟨.optr t.1, t.2⟩) (cs := [.pointer (some ⟨w.heap.size, 0, none⟩)]) (f := w.heap.size :: fp id) (v := .pointer (some ⟨w.heap.size, 0, none⟩)) (w' := w.alloc (.cells (rt id).toArray T)) hd hdn hR hnext (.inr hdn0) ?_ (Grew.alloc w _) rfl
   ⟨w.heap.size, 0, fp id, rt id, rfl, rfl, r1.len, At.alloc (fun j v hj => by simpa using hj), Fr.alloc (by simp [r1.len]), r1'⟩ (List.nodup_cons.2 ⟨fun hm => Nat.lt_irrefl _ (r3 _ hm).2.2.1, r2⟩) ?_ ?_
  ·simp [execOp, ho, hv, Instr.box, newVar, newRow, regV_cells hf r1.len r1.one]
  ·intro b hb
   rcases List.mem_cons.1 hb with rfl | hb
   ·exact .inl ⟨Nat.le_refl _, by simp⟩
   ·exact .inr ⟨id, by simp, t, ht, hb⟩
  ·have := hq _ h
   rw [show (Eff.mk (some (d, .ref d [])) [id] [] [(d, ⟨.optr t.1, t.2⟩)]).app st = ⟨(d, .ref d []) :: kill [id] [] st.g, (d, ⟨.optr t.1, t.2⟩) :: del [id] st.h⟩ from rfl] at this
   exact this
 ·cases h
def coeO (h : List (Nat × Tree)) (t : Ty) (x : AV) : Option (t.den × List Nat) :=
 match x with
 | .ref id [] => match lk h id with
   | some τx => match castT t τx.2 with
     | some y => some (y, [id])
     | none => none
   | none => none
 | x => match coe t x with
   | some y => some (y, [])
   | none => none
def coesO (h : List (Nat × Tree)) (t : Ty) : List AV → Option (List t.den × List (List Nat))
 | [] => some ([], [])
 | x :: r => match coeO h t x, coesO h t r with
   | some y, some l => some (y.1 :: l.1, y.2 :: l.2)
   | _, _ => none
theorem coeO_rep {M : Md → Nat → Prop} {h : List (Nat × Tree)} (hh : ∀ id t, lk h id = some t → Rep M w t.1 (rt id) t.2 (fp id)) {t : Ty} {T : TypeId} (hT : TyF E.P t T) {x : AV} {v : Value} (hx : AVok M w h rt fp x v) {y : t.den} {ids : List Nat}
  (hc : coeO h t x = some (y, ids)) : Rep M w t v.cells.toList y (ids.map fp).flatten ∧ ∀ id ∈ ids, ∃ u, lk h id = some u := by
 unfold coeO at hc
 split at hc
 ·rename_i id
  split at hc
  case h_2 => cases hc
  rename_i τx ht
  split at hc
  case h_2 => cases hc
  rename_i y' hy
  cases hc
  obtain ⟨τ, x⟩ := τx
  have he := castT_some hy
  cases he
  cases hx with | ref ht' hn =>
  rw [ht] at ht'; cases ht'
  obtain ⟨rfl, rfl, rfl⟩ := Nav.nil_iff.1 hn
  have r := hh id _ ht
  rw [regV_cells hT r.len r.one]
  refine ⟨by simpa using r, fun i hi => ?_⟩
  rw [List.mem_singleton] at hi
  subst hi
  exact ⟨_, ht⟩
 ·split at hc
  ·rename_i y' hy
   cases hc
   exact ⟨coe_rep hT hx hy, by simp⟩
  ·cases hc
theorem coesO_get {h : List (Nat × Tree)} {t : Ty} : ∀ {l : List AV} {xs : List t.den} {is : List (List Nat)}, coesO h t l = some (xs, is) → xs.length = l.length ∧ is.length = l.length ∧ ∀ (i : Nat) (x : t.den), xs[i]? = some x → ∃ (y : AV) (q : List Nat), l[i]? = some y ∧ is[i]? = some q ∧ coeO h t y = some (x, q)
 | [], xs, is, hc => by cases hc; exact ⟨rfl, rfl, fun i x h => by simp at h⟩
 | y :: l, xs, is, hc => by
     simp only [coesO] at hc
     split at hc
     ·rename_i z r hz hr
      cases hc
      obtain ⟨h1, h2, h3⟩ := coesO_get (xs := r.1) (is := r.2) hr
      refine ⟨by simp [h1], by simp [h2], fun i x hi => ?_⟩
      cases i with
      | zero => simp only [List.getElem?_cons_zero, Option.some.injEq] at hi; subst hi; exact ⟨y, z.2, rfl, rfl, hz⟩
      | succ i => simpa using h3 i x (by simpa using hi)
     ·cases hc
def bslE {β : Type} (tt : List (TypeId × Ty)) (an : List (Nat × Ty)) (h : List (Nat × Tree)) (g : Operand → AV) (d : Nat) (T : TypeId) (n : Nat) (parts : List (Nat × Operand)) (K : Eff → Option β) : Option β :=
 match isSlcT tt T, lk h d with
 | some u, none =>
   match (match lk an d with | some (.osl t) => t | _ => u) with
   | t => bif sameLay u t && Nat.ble t.size 2000 && Nat.ble n 1000 && seqFrom parts 0 && Nat.beq parts.length n then
     match coes t (parts.map fun q => g q.2) with
     | some xs => K ⟨some (d, .ref d []), [], [], [(d, ⟨.osl t, xs⟩)]⟩
     | none => match coesO h t (parts.map fun q => g q.2) with
       | some q => bif nodupB q.2.flatten then K ⟨some (d, .ref d []), q.2.flatten, [], [(d, ⟨.osl t, q.1⟩)]⟩ else none
       | none => none
   else none
 | _, _ => none
theorem bslE_ok {β : Type} {r : β} {K : Eff → Option β} {an : List (Nat × Ty)} {d : Nat} {T : TypeId} {n : Nat} {parts : Array (Nat × Operand)} (ho : o.op = .buildSlice T n parts) (hd : o.dst = some d) (hdn : C.ok d)
  (h : bslE E.tt an st.h (opA st.g) d T n parts.toList K = some r) (hq : ∀ e, K e = some r → Q (e.app st)) : OK1 E C o st Q := by
 unfold bslE at h
 split at h
 case h_2 => cases h
 rename_i u hT hdn0
 generalize ht : (match lk an d with | some (.osl t) => t | _ => u) = t at h
 simp only at h
 cases hb : (sameLay u t && Nat.ble t.size 2000 && Nat.ble n 1000 && seqFrom parts.toList 0 && Nat.beq parts.toList.length n) with
 | false => rw [hb] at h; cases h
 | true =>
 rw [hb] at h
 simp only [cond_true] at h
 split at h
 ·rename_i xs hxs
  refine OK1.eval (an := an) hd hdn ?_
  rw [ho]
  simp only [evalF, bslF, hT, hdn0]
  cases hl : lk an d with
  | none =>
    rw [hl] at ht
    simp only at ht
    subst ht
    simp only [hb, cond_true, hxs]
    exact hq _ h
  | some q =>
    rw [hl] at ht
    cases q <;> (simp only at ht; subst ht; simp only [hb, cond_true, hxs]; exact hq _ h)
 split at h
 case h_2 => cases h
 rename_i q hq0
 obtain ⟨xs, is⟩ := q
 cases hnd : nodupB is.flatten with
 | false => rw [hnd] at h; cases h
 | true =>
 rw [hnd] at h
 rintro a w ⟨I, rt, fp, hR⟩ next X hnext
 have hh : ∀ id t, lk st.h id = some t → Rep (md I C.B) w t.1 (rt id) t.2 (fp id) := fun id t ht => (hR.tree id t ht).1
 simp only [Bool.and_eq_true] at hb
 obtain ⟨⟨⟨⟨b1, b2⟩, b3⟩, b4⟩, b5⟩ := hb
 have b2 := Nat.le_of_ble_eq_true b2
 have b3 := Nat.le_of_ble_eq_true b3
 have b5 : parts.toList.length = n := Nat.eq_of_beq_eq_true b5
 obtain ⟨j, S, _, h5, h6⟩ := isSlcT.ok hT
 have h6' := h6.lay b1
 obtain ⟨i, dd, q5, _⟩ := h6'.info
 have hpos := h6'.pos
 obtain ⟨c1, c0, c2⟩ := coesO_get hq0
 simp only [List.length_map] at c1 c0
 have hxn : xs.length = n := by omega
 have hlen : n * t.size ≤ 16777216 := by
  have : n * t.size ≤ 1000 * 2000 := Nat.mul_le_mul b3 b2
  omega
 -- each element's cells
 have hel : ∀ (k : Nat) (q : Nat × Operand), parts.toList[k]? = some q → ∃ (x : t.den) (ids : List Nat), xs[k]? = some x ∧ is[k]? = some ids ∧ Rep (md I C.B) w t (a.eval q.2).cells.toList x (ids.map fp).flatten ∧ ∀ id ∈ ids, ∃ u, lk st.h id = some u := by
  intro k q hk
  have hkl : k < xs.length := by have := (List.getElem?_eq_some_iff.1 hk).1; omega
  obtain ⟨y, ids, e1, e3, e2⟩ := c2 k xs[k] (by simp)
  rw [List.getElem?_map, hk] at e1
  simp only [Option.map_some, Option.some.injEq] at e1
  subst e1
  obtain ⟨k1, k2⟩ := coeO_rep hh h6' (hR.opA q.2) e2
  exact ⟨xs[k], ids, by simp, e3, k1, k2⟩
 have hids : ∀ id ∈ is.flatten, ∃ u, lk st.h id = some u := by
  intro id hid
  obtain ⟨l, hl, hil⟩ := List.mem_flatten.1 hid
  obtain ⟨k, hk, rfl⟩ := List.mem_iff_getElem.1 hl
  have hk' : parts.toList[k]? = some (parts.toList[k]'(by omega)) := List.getElem?_eq_getElem _
  obtain ⟨x, ids, _, e, _, hu⟩ := hel k _ hk'
  rw [List.getElem?_eq_getElem hk] at e
  cases e
  exact hu id hil
 obtain ⟨iz, hiz0, hiz1⟩ : ∃ zc : Array Value, (n * t.size = 0 → zc = #[]) ∧ (n * t.size ≠ 0 → ∃ zz, (zeroValue S).run E.P w = .ok zz w ∧ zc = zz.cells) := by
  by_cases h0 : n * t.size = 0
  ·exact ⟨#[], fun _ => rfl, fun h => absurd h0 h⟩
  ·obtain ⟨zz, _, hzz⟩ := TyF.hasZero h6'
   exact ⟨zz.cells, fun h => absurd h h0, fun _ => ⟨zz, by simp [zeroValue, typeInfo, q5.info, hzz i q5.info], rfl⟩⟩
 obtain ⟨rr, r1, r2, r3, r4⟩ := fill_ok (fun i => some (i * t.size, t.size)) (parts.toList.map fun q => (q.1, a.eval q.2)) ((Array.range (n * t.size)).map (iz[· % iz.size]!)) (by
  intro q hq
  obtain ⟨p, hp, rfl⟩ := List.mem_map.1 hq
  obtain ⟨k, hk, rfl⟩ := List.mem_iff_getElem.1 hp
  have hk' : parts.toList[k]? = some parts.toList[k] := by simp
  obtain ⟨x, _, _, _, hx, _⟩ := hel k _ hk'
  have e := seqFrom_get b4 k _ hk'
  have : (k + 1) * t.size ≤ n * t.size := Nat.mul_le_mul_right _ (by omega)
  rw [Nat.add_mul, Nat.one_mul] at this
  refine ⟨_, _, rfl, by have := hx.len; simpa using this, ?_⟩
  simp only [Array.size_map, Array.size_range]
  rw [e, Nat.zero_add]
  exact this) (by
  rw [List.pairwise_iff_getElem]
  intro k l hk hl hkl o1 s1 o2 s2 e1 e2
  simp only [List.getElem_map, Option.some.injEq, Prod.mk.injEq] at e1 e2
  simp only [List.length_map] at hk hl
  have f1 := seqFrom_get b4 k parts.toList[k] (by simp)
  have f2 := seqFrom_get b4 l parts.toList[l] (by simp)
  obtain ⟨rfl, rfl⟩ := e1
  obtain ⟨rfl, rfl⟩ := e2
  left
  rw [f1, f2]
  have : (0 + k + 1) * t.size ≤ (0 + l) * t.size := Nat.mul_le_mul_right _ (by omega)
  rw [Nat.add_mul, Nat.one_mul] at this
  exact this)
 have hrs : rr.size = n * t.size := by rw [r2]; simp
 have hM : ∀ b, b < w.heap.size → Sm w (w.alloc (.cells rr S)) b := fun b hb => .of_heap ((Grew.alloc w _).heap b hb)
 have hfl : (is.map fun ids => (ids.map fp).flatten).flatten = (is.flatten.map fp).flatten := by
  clear hel hids c2 hnd h hq0 c0
  induction is with
  | nil => rfl
  | cons x l ih => simp only [List.map_cons, List.flatten_cons, ih, List.map_append, List.flatten_append]
 have hlt : ∀ b ∈ (is.flatten.map fp).flatten, b < w.heap.size ∧ ∃ id ∈ is.flatten, ∃ u, lk st.h id = some u ∧ b ∈ fp id := by
  intro b hb
  obtain ⟨id, hid, hb⟩ := mem_fps hb
  obtain ⟨u, hu⟩ := hids id hid
  exact ⟨((hR.tree id u hu).2.2 b hb).2.2.1, id, hid, u, hu, hb⟩
 refine OK1.own (S := is.flatten) (t := ⟨.osl t, xs⟩) (cs := [.slice (some ⟨w.heap.size, 0, none⟩) n n]) (f := w.heap.size :: (is.flatten.map fp).flatten) (v := .slice (some ⟨w.heap.size, 0, none⟩) n n) (w' := w.alloc (.cells rr S)) hd hdn hR hnext (.inr hdn0) ?_ (Grew.alloc w _) rfl ?_
  (List.nodup_cons.2 ⟨fun hm => Nat.lt_irrefl _ (hlt _ hm).1, hR.fps (nodupB.ok hnd) hids⟩) ?_ ?_
 ·have hsz := h6'.sizeOf w
  have hnb : ¬ (16777216 < n * t.size) := by omega
  have hpm : (Array.map (fun x => (x.fst, a.eval x.snd)) parts).toList = parts.toList.map fun q => (q.1, a.eval q.2) := by simp
  simp only [execOp, ho, Instr.buildSlice, Sem.run_bind, run_underlying h5, Result.andThen_ok, hsz]
  rw [if_neg (by omega)]
  by_cases h0 : n * t.size = 0
  ·rw [if_pos h0]
   obtain rfl := hiz0 h0
   rw [hpm]
   simp only [Sem.run_bind, Sem.run_pure, Result.andThen_ok, r1, newRow, newObj]
   rfl
  ·rw [if_neg h0]
   obtain ⟨zz, hz1, rfl⟩ := hiz1 h0
   rw [hpm]
   simp only [Sem.run_bind, Sem.run_pure, Result.andThen_ok, hz1, r1, newRow, newObj]
   rfl
 ·refine ⟨some ⟨w.heap.size, 0, none⟩, n, by rw [hxn], .inr ⟨w.heap.size, 0, is.map fun ids => (ids.map fp).flatten, rfl, by rw [hfl], by simp; omega, (by show xs.length ≤ n; omega), Fr.alloc (by rw [hrs]; omega), fun k x g hx hg => ?_⟩⟩
  have hk : k < n := by have : k < xs.length := (List.getElem?_eq_some_iff.1 hx).1; omega
  have hk' : parts.toList[k]? = some (parts.toList[k]'(by omega)) := by simp
  obtain ⟨x', ids, hx', hi', hrep, hu⟩ := hel k _ hk'
  rw [hx] at hx'
  obtain rfl := Option.some.inj hx'
  rw [List.getElem?_map, hi'] at hg
  obtain rfl := Option.some.inj hg
  refine ⟨_, hrep.len, At.alloc (fun j v hj => ?_), hrep.mono (fun m b hb => ⟨hb, hM b (hR.ib b (md_or hb))⟩) (fun b hb => ?_)⟩
  ·have := r4 (parts.toList[k].1, a.eval parts.toList[k].2) (List.mem_map.2 ⟨parts.toList[k], List.getElem_mem _, rfl⟩) _ _ rfl j v (by simpa using hj)
   have e := seqFrom_get b4 k _ hk'
   rw [e, Nat.zero_add] at this
   simpa using this
  ·obtain ⟨id, hid, hb⟩ := mem_fps hb
   obtain ⟨u, hu⟩ := hu id hid
   exact hM b ((hR.tree id u hu).2.2 b hb).2.2.1
 ·intro b hb
  rcases List.mem_cons.1 hb with rfl | hb
  ·exact .inl ⟨Nat.le_refl _, by simp⟩
  ·obtain ⟨_, id, hid, u, hu, hb⟩ := hlt b hb
   exact .inr ⟨id, hid, u, hu, hb⟩
 ·have := hq _ h
  rw [show (Eff.mk (some (d, .ref d [])) is.flatten [] [(d, ⟨.osl t, xs⟩)]).app st = ⟨(d, .ref d []) :: kill is.flatten [] st.g, (d, ⟨.osl t, xs⟩) :: del is.flatten st.h⟩ by
   show St.mk ((d, _) :: killE _ [] st.g) ([_] ++ delE _ st.h) = _
   rw [killE_eq, delE_eq]; rfl] at this
  exact this
end
end Go.Fw
end
section
namespace Go.Fw
def frz : Ty → Ty
 | .osl t => .slc .imm (frz t)
 | .st t => .st (frz t)
 | .pr a b => .pr (frz a) (frz b)
 | .mp t => .vm .imm t
 | τ => τ
def frzOk : Ty → Bool
 | .osl t | .st t => frzOk t
 | .pr a b => frzOk a && frzOk b
 | .optr _ | .blk => false
 | _ => true
theorem frz_den : ∀ τ : Ty, (frz τ).den = τ.den
 | .osl t => congrArg List (frz_den t)
 | .st t => frz_den t
 | .pr a b => by show ((frz a).den × (frz b).den) = (a.den × b.den); rw [frz_den a, frz_den b]
 | .int _ | .bool | .str | .slc _ _ | .ptr _ _ | .optr _ | .nil | .blk | .mp _ | .vm _ _ => rfl
def frzD (τ : Ty) (x : τ.den) : (frz τ).den := cast (frz_den τ).symm x
theorem cast_list {A B : Type} (h : A = B) (h' : List A = List B) (xs : List A) : cast h' xs = xs.map (cast h) := by
 subst h
 show xs = xs.map (fun x => x)
 simp
theorem cast_prod {A B C D : Type} (h : A = B) (k : C = D) (h' : (A × C) = (B × D)) (x : A × C) : cast h' x = (cast h x.1, cast k x.2) := by
 subst h; subst k; rfl
theorem frzD_osl (t : Ty) (xs : List t.den) : (frzD (.osl t) xs : List (frz t).den) = xs.map (frzD t) := cast_list (frz_den t).symm _ xs
theorem frzD_pr (a b : Ty) (x : a.den × b.den) : (frzD (.pr a b) x : (frz a).den × (frz b).den) = (frzD a x.1, frzD b x.2) := cast_prod (frz_den a).symm (frz_den b).symm _ x
theorem frz_size : ∀ τ : Ty, (frz τ).size = τ.size
 | .osl t => rfl
 | .st t => frz_size t
 | .pr a b => by simp only [frz, Ty.size, frz_size a, frz_size b]
 | .int _ | .bool | .str | .slc _ _ | .ptr _ _ | .optr _ | .nil | .blk | .mp _ | .vm _ _ => rfl
theorem rep_frz {M M' : Md → Nat → Prop} {w : World} (hM : ∀ m b, M m b → M' m b) : ∀ {τ : Ty} {cs : List Value} {x : τ.den} {f : List Nat}, frzOk τ = true → Rep M w τ cs x f → (∀ b ∈ f, M' .imm b) → Rep M' w (frz τ) cs (frzD τ x) []
 | .osl t, cs, xs, f, ho, h, hf => by
    obtain ⟨a, cap, hcs, h⟩ := h
    have hl : (frzD (.osl t) xs : List (frz t).den).length = List.length (α := t.den) xs := by rw [frzD_osl]; simp
    rcases h with ⟨rfl, h0, rfl, rfl⟩ | ⟨b, o, fps, rfl, rfl, h1, h2, h3, h4⟩
    ·refine ⟨rfl, none, 0, by rw [hcs, hl], by rw [hl, h0]; simp, fun _ => rfl, .inl ?_⟩
     rw [frzD_osl, h0]; rfl
    ·refine ⟨rfl, _, cap, by rw [hcs, hl], by rw [hl]; exact h2, (fun h => by cases h), ?_⟩
     refine .inr ⟨b, o, rfl, hf b (by simp), fun i x hx => ?_⟩
     rw [frzD_osl] at hx
     have hx : (List.map (frzD t) xs)[i]? = some x := hx
     rw [List.getElem?_map] at hx
     obtain ⟨y, hy, rfl⟩ := Option.map_eq_some_iff.1 hx
     have hi : i < List.length (α := t.den) xs := (List.getElem?_eq_some_iff.1 hy).1
     have hg : fps[i]? = some (fps[i]'(by omega)) := List.getElem?_eq_getElem _
     obtain ⟨ds, d1, d2, d3⟩ := h4 i y _ hy hg
     rw [frz_size]
     exact ⟨ds, d1, d2, rep_frz hM ho d3 (fun c hc => hf c (List.mem_cons_of_mem _ (List.mem_flatten.2 ⟨_, List.getElem_mem _, hc⟩)))⟩
 | .st t, cs, x, f, ho, h, hf => rep_frz (τ := t) hM ho h hf
 | .pr a b, cs, x, f, ho, h, hf => by
    simp only [frzOk, Bool.and_eq_true] at ho
    obtain ⟨f1, f2, rfl, h1, h2⟩ := h
    have e := frzD_pr a b x
    refine ⟨[], [], rfl, ?_, ?_⟩
    ·rw [frz_size]
     have := rep_frz hM ho.1 h1 (fun c hc => hf c (by simp [hc]))
     rw [show (frzD (.pr a b) x : (frz a).den × (frz b).den).1 = frzD a x.1 by rw [e]]
     exact this
    ·rw [frz_size]
     have := rep_frz hM ho.2 h2 (fun c hc => hf c (by simp [hc]))
     rw [show (frzD (.pr a b) x : (frz a).den × (frz b).den).2 = frzD b x.2 by rw [e]]
     exact this
 | .int k, cs, x, f, _, h, _ => by obtain rfl := Rep.pure (τ := .int k) rfl h; exact h.mono (fun m b hb => ⟨hM m b hb, Sm.refl _ _⟩) (by simp)
 | .bool, cs, x, f, _, h, _ => by obtain rfl := Rep.pure (τ := .bool) rfl h; exact h.mono (fun m b hb => ⟨hM m b hb, Sm.refl _ _⟩) (by simp)
 | .str, cs, x, f, _, h, _ => by obtain rfl := Rep.pure (τ := .str) rfl h; exact h.mono (fun m b hb => ⟨hM m b hb, Sm.refl _ _⟩) (by simp)
 | .slc m t, cs, x, f, _, h, _ => by obtain rfl := Rep.pure (τ := .slc m t) rfl h; exact h.mono (fun m b hb => ⟨hM m b hb, Sm.refl _ _⟩) (by simp)
 | .ptr m t, cs, x, f, _, h, _ => by obtain rfl := Rep.pure (τ := .ptr m t) rfl h; exact h.mono (fun m b hb => ⟨hM m b hb, Sm.refl _ _⟩) (by simp)
 | .nil, cs, x, f, _, h, _ => by obtain rfl := Rep.pure (τ := .nil) rfl h; exact h.mono (fun m b hb => ⟨hM m b hb, Sm.refl _ _⟩) (by simp)
 | .optr _, _, _, _, ho, _, _ => by cases ho
 | .vm m t, cs, x, f, _, h, _ => by obtain rfl := Rep.pure (τ := .vm m t) rfl h; exact h.mono (fun m b hb => ⟨hM m b hb, Sm.refl _ _⟩) (by simp)
 | .mp t, cs, x, f, _, h, hf => by
    cases x with
    | none => exact ⟨rfl, h.2⟩
    | some q =>
      obtain ⟨b, es, L, h1, h2, hL, h3, h4, h5⟩ := h
      refine ⟨b, es, L, h1, rfl, hL, hf b (by rw [h2]; simp), h3, h4, fun i q hq => ?_⟩
      obtain ⟨ds, d1, d2, d3⟩ := h5 i q hq
      exact ⟨ds, d1, d2, d3.mono (fun m b hb => ⟨hM m b hb, Sm.refl _ _⟩) (by simp)⟩
 | .blk, _, _, _, ho, _, _ => by cases ho
def frzTop : Tree → AV
 | ⟨.optr u, x⟩ => .val (.ptr .imm (frz u)) (some (frzD u x))
 | ⟨τ, x⟩ => .val (frz τ) (frzD τ x)
def frzOkT : Ty → Bool
 | .optr u => frzOk u
 | τ => frzOk τ
def frzAVb (h : List (Nat × Tree)) (F : List Nat) (a : AV) : AV :=
 match a with
 | .ref id [] => bif memN id F then match lk h id with
   | some t => frzTop t
   | none => .dead else .ref id []
 | a => bif a.uses F then .dead else a
theorem frzAVb_cases (h : List (Nat × Tree)) (F : List Nat) (a : AV) : (∃ id t, a = .ref id [] ∧ id ∈ F ∧ lk h id = some t ∧ frzAVb h F a = frzTop t) ∨ (frzAVb h F a = .dead ∧ a.uses F = true) ∨ (frzAVb h F a = a ∧ a.uses F = false) := by
 have gen : ∀ a : AV, frzAVb h F a = (bif a.uses F then .dead else a) → (∃ id t, a = .ref id [] ∧ id ∈ F ∧ lk h id = some t ∧ frzAVb h F a = frzTop t) ∨ (frzAVb h F a = .dead ∧ a.uses F = true) ∨ (frzAVb h F a = a ∧ a.uses F = false) := by
  intro a ha
  cases hu : a.uses F with
  | true => rw [hu] at ha; exact .inr (.inl ⟨ha, rfl⟩)
  | false => rw [hu] at ha; exact .inr (.inr ⟨ha, rfl⟩)
 cases a with
 | ref id p =>
   cases p with
   | nil =>
     cases hm : memN id F with
     | true =>
       have hu : (AV.ref id []).uses F = true := by simp [AV.uses, AV.ids, hm]
       cases hl : lk h id with
       | none => exact .inr (.inl ⟨by simp [frzAVb, hm, hl], hu⟩)
       | some t => exact .inl ⟨id, t, rfl, memN_iff.1 hm, hl, by simp [frzAVb, hm, hl]⟩
     | false => exact .inr (.inr ⟨by simp [frzAVb, hm], by simp [AV.uses, AV.ids, hm]⟩)
   | cons s p => exact gen _ rfl
 | _ => exact gen _ rfl
def frzAV (h : List (Nat × Tree)) (F : List Nat) : AV → AV
 | .tup l => .tup (l.map (frzAVb h F))
 | a => frzAVb h F a
theorem frzAV_eq {h : List (Nat × Tree)} {F : List Nat} {a : AV} (ha : ∀ l, a ≠ .tup l) : frzAV h F a = frzAVb h F a := by
 cases a with
 | tup l => exact absurd rfl (ha l)
 | _ => rfl
def frzS (F : List Nat) (st : St) : St := ⟨st.g.map fun q => (q.1, frzAV st.h F q.2), del F st.h⟩
theorem gt_map (f : AV → AV) (hf : f .dead = .dead) : ∀ (g : List (Nat × AV)) (k : Nat), gt (g.map fun q => (q.1, f q.2)) k = f (gt g k)
 | [], k => hf.symm
 | (k0, a) :: g, k => by
     show gt ((k0, f a) :: _) k = _
     rw [gt_cons, gt_cons]
     split
     ·rfl
     ·exact gt_map f hf g k
theorem frzS_gt (F : List Nat) (st : St) (k : Nat) : gt (frzS F st).g k = frzAV st.h F (gt st.g k) := gt_map (frzAV st.h F) rfl st.g k
theorem frzS_opA (F : List Nat) (st : St) : opA (frzS F st).g = fun x => frzAV st.h F (opA st.g x) := by
 funext x
 cases x with
 | tmp k => exact frzS_gt F st k
 | const v => cases v <;> rfl
 | func f => rfl
 | global g => rfl
theorem uses_nilb {F : List Nat} {a : AV} (h : a.uses F = false) (keep : List (Nat × List Step)) : kill1b F keep a = a := by
 unfold kill1b
 rw [h]; rfl
theorem uses_part {F : List Nat} {l : List AV} (h : (AV.tup l).uses F = false) {a : AV} (ha : a ∈ l) : a.uses F = false := by
 unfold AV.uses at h ⊢
 rw [List.any_eq_false] at h ⊢
 intro id hid
 obtain ⟨i, hi, rfl⟩ := List.mem_iff_getElem.1 ha
 exact h id (AV.mem_idsL (l := l) (i := i) (List.getElem?_eq_getElem hi) hid)
theorem uses_nil' {F : List Nat} {a : AV} (h : a.uses F = false) (keep : List (Nat × List Step)) : kill1 F keep a = a := by
 cases a with
 | tup l =>
   simp only [kill1]
   rw [List.map_congr_left (fun a ha => uses_nilb (uses_part h ha) keep), List.map_id']
 | _ => exact uses_nilb h keep
theorem frzTop_kill (S : List Nat) (keep : List (Nat × List Step)) (t : Tree) : kill1 S keep (frzTop t) = kill1b S keep (frzTop t) := by
 unfold frzTop
 split <;> rfl
def AVle (a b : AV) : Prop := a = .dead ∨ a = b ∨ ∃ l l', a = .tup l ∧ b = .tup l' ∧ l.length = l'.length ∧ ∀ (i : Nat) (x y : AV), l[i]? = some x → l'[i]? = some y → x = .dead ∨ x = y
section
variable {C : Ctx} {st : St} {tm : Array Value} {w : World}
theorem RelAt.freeze {I : Nat → Prop} {rt : Nat → List Value} {fp : Nat → List Nat} (hR : RelAt C st tm w I rt fp) {F : List Nat} (hF : ∀ id ∈ F, ∃ t, lk st.h id = some t ∧ frzOkT t.1 = true) : Rel C (frzS F st) tm w := by
 have hu := hR.upd (S := F) (keep := []) (new := []) (rtn := rt) (fpn := fp) (w' := w) (I' := fun b => I b ∨ ∃ id ∈ F, ∃ t, lk st.h id = some t ∧ b ∈ fp id) ⟨Nat.le_refl _, rfl, rfl, rfl, fun _ _ _ => rfl, fun _ _ => .refl _ _, fun _ h => .inl h, fun b h => h.imp id fun ⟨id, hid, t, ht, hb⟩ =>
   ⟨((hR.tree id t ht).2.2 b hb).2.2.1, .inr ⟨id, hid, t, ht, hb⟩⟩, (fun _ _ h => by cases h), (fun _ _ _ _ h => by cases h), (fun _ h => by cases h)⟩
 refine ⟨_, _, _, { hu with tmp := fun k => ?_ }⟩
 rw [frzS_gt]
 have hk := hR.tmp k
 have hu' := hu.tmp k
 rw [show gt (St.mk (kill F [] st.g) ([] ++ del F st.h)).g k = kill1 F [] (gt st.g k) from gt_kill _ _ _ _] at hu'
 generalize gt st.g k = av at hk hu'
 generalize tm.getD k undef = v at hk hu'
 have comp : ∀ (av : AV) (v : Value), AVok (md I C.B) w st.h rt fp av v → AVok (md (fun b => I b ∨ ∃ id ∈ F, ∃ t, lk st.h id = some t ∧ b ∈ fp id) C.B) w ([] ++ del F st.h) (mixv [] rt rt) (mixv [] fp fp) (kill1b F [] av) v →
   AVok (md (fun b => I b ∨ ∃ id ∈ F, ∃ t, lk st.h id = some t ∧ b ∈ fp id) C.B) w ([] ++ del F st.h) (mixv [] rt rt) (mixv [] fp fp) (frzAVb st.h F av) v := by
  intro av v hk hu'
  rcases frzAVb_cases st.h F av with ⟨id, t, h1, h2, h3, h4⟩ | ⟨h1, _⟩ | ⟨h1, h2⟩
  ·rw [h4]
   rw [h1] at hk
   cases hk with | ref ht hn =>
   rw [h3] at ht; cases ht
   obtain ⟨rfl, rfl, rfl⟩ := Nav.nil_iff.1 hn
   obtain ⟨t', ht', hok⟩ := hF id h2
   rw [h3] at ht'; cases ht'
   have hM : ∀ m b, md I C.B m b → md (fun b => I b ∨ ∃ id ∈ F, ∃ t, lk st.h id = some t ∧ b ∈ fp id) C.B m b := by
    intro m b hb
    cases m
    ·exact .inl hb
    ·exact hb.imp .inl (fun h => h)
   have hrep := (hR.tree id t h3).1
   have hin : ∀ b ∈ fp id, md (fun b => I b ∨ ∃ id ∈ F, ∃ t, lk st.h id = some t ∧ b ∈ fp id) C.B .imm b := fun b hb => .inr ⟨id, h2, t, h3, hb⟩
   obtain ⟨τ, x⟩ := t
   by_cases ho : ∃ u, τ = .optr u
   ·obtain ⟨u, rfl⟩ := ho
    obtain ⟨b, o, g, ds, e1, e2, e3, e4, e5, e6⟩ := hrep
    show AVok _ _ _ _ _ (.val (.ptr .imm (frz u)) (some (frzD u x))) _
    have e1 : rt id = [.pointer (some ⟨b, o, none⟩)] := e1
    rw [e1]
    refine .val (τ := .ptr .imm (frz u)) (x := some (frzD u x)) (cs := [.pointer (some ⟨b, o, none⟩)]) ⟨rfl, b, o, ds, rfl, hin b (by rw [e2]; exact List.mem_cons_self ..), by rw [frz_size]; exact e3, e4, rep_frz hM hok e6 (fun c hc => hin c (by rw [e2]; exact List.mem_cons_of_mem _ hc))⟩
   ·have hreg : regV τ (rt id) = regV (frz τ) (rt id) := by
     cases τ <;> rfl
    have htop : frzTop ⟨τ, x⟩ = .val (frz τ) (frzD τ x) := by
     cases τ <;> first | rfl | exact absurd ⟨_, rfl⟩ ho
    have hok' : frzOk τ = true := by
     cases τ <;> first | exact hok | exact absurd ⟨_, rfl⟩ ho
    rw [htop]
    show AVok _ _ _ _ _ _ (regV τ (rt id))
    rw [hreg]
    exact .val (rep_frz hM hok' hrep hin)
  ·rw [h1]; exact .dead _
  ·rw [h1]
   rw [uses_nilb h2] at hu'
   exact hu'
 cases av with
 | tup l =>
   cases hk with | tup hl hh =>
   cases hu' with | tup hl' hh' =>
   refine .tup (by simp [hl]) (fun i a v h1 h2 => ?_)
   rw [List.getElem?_map] at h1
   obtain ⟨a0, h3, rfl⟩ := Option.map_eq_some_iff.1 h1
   exact comp a0 v (hh i a0 v h3 h2) (hh' i _ v (by rw [List.getElem?_map, h3]; rfl) h2)
 | _ => exact comp _ _ hk hu'
theorem Rel.less2 {st' : St} (h : Rel C st tm w) (hg : ∀ k, AVle (gt st'.g k) (gt st.g k)) (hh : ∀ id, lk st'.h id = lk st.h id) : Rel C st' tm w := by
 obtain ⟨I, rt, fp, hR⟩ := h
 refine ⟨I, rt, fp, { hR with tree := fun id t ht => hR.tree id t (by rw [← hh]; exact ht), dis := fun i j t u hi hj => hR.dis i j t u (by rw [← hh]; exact hi) (by rw [← hh]; exact hj), tmp := fun k => ?_ }⟩
 have mono : ∀ (a : AV) (v : Value), AVok (md I C.B) w st.h rt fp a v → AVok (md I C.B) w st'.h rt fp a v := fun a v ha =>
  ha.monoOn (fun m b hb => ⟨hb, Sm.refl _ _⟩) (fun id _ t ht => ⟨by rw [hh]; exact ht, rfl, rfl, (hR.tree id t ht).1, fun _ _ => Sm.refl _ _⟩)
 have hk := hR.tmp k
 rcases hg k with e | e | ⟨l, l', e1, e2, e3, e4⟩
 ·rw [e]; exact .dead _
 ·rw [e]; exact mono _ _ hk
 ·rw [e1]
  rw [e2] at hk
  generalize tm.getD k undef = v at hk
  cases hk with | tup hl hh' =>
  refine .tup (e3.trans hl) (fun i a v h1 h2 => ?_)
  obtain ⟨y, hy⟩ : ∃ y, l'[i]? = some y := by
   have := (List.getElem?_eq_some_iff.1 h1).1
   exact ⟨_, List.getElem?_eq_getElem (by omega)⟩
  rcases e4 i a y h1 hy with e | e
  ·rw [e]; exact .dead _
  ·rw [e]; exact mono _ _ (hh' i y v hy h2)
theorem Rel.less {st' : St} (h : Rel C st tm w) (hg : ∀ k, gt st'.g k = .dead ∨ gt st'.g k = gt st.g k) (hh : ∀ id, lk st'.h id = lk st.h id) : Rel C st' tm w :=
 h.less2 (fun k => (hg k).imp id .inl) hh
end
def valOps : Op → List Operand
 | .build _ ps => ps.toList.map (·.2)
 | .buildSlice _ _ ps => ps.toList.map (·.2)
 | .store _ _ v => [v]
 | .mapUpdate _ _ _ v => [v]
 | .box _ v => [v]
 | .assign v => [v]
 | .call c => match c.callee with
   | .value _ => c.args.toList
   | .builtin .append => c.args.toList.drop 1
   | _ => []
 | _ => []
def frzKey (o : Oper) : Nat := match o.dst with
 | some d => d
 | none => 999999
def frzIds (fz : List (Nat × Nat)) (k : Nat) (g : Operand → AV) : List Operand → List Nat
 | [] => []
 | x :: l => match g x with
   | .ref id [] => bif fz.any (fun q => Nat.beq q.1 k && Nat.beq q.2 id) then id :: frzIds fz k g l else frzIds fz k g l
   | _ => frzIds fz k g l
end Go.Fw
end
section
namespace Go.Fw
theorem cpL_length {α : Type} {xs ys : List α} {lo hi : Nat} (h1 : lo ≤ hi) (h2 : hi ≤ xs.length) : (cpL xs ys lo hi).length = xs.length := by
 unfold cpL
 simp only [List.length_append, List.length_take, List.length_drop]
 omega
theorem cpL_get {α : Type} {xs ys : List α} {lo hi : Nat} (h1 : lo ≤ hi) (h2 : hi ≤ xs.length) (i : Nat) : (cpL xs ys lo hi)[i]? = if lo ≤ i ∧ i < lo + min ys.length (hi - lo) then ys[i - lo]? else xs[i]? := by
 unfold cpL
 rw [List.getElem?_append]
 simp only [List.length_take]
 rcases Nat.lt_or_ge i lo with h | h
 ·rw [if_pos (by omega), if_neg (by omega), List.getElem?_take_of_lt h]
 ·rw [if_neg (by omega), List.getElem?_append]
  simp only [List.length_take]
  have e : i - min lo xs.length = i - lo := by omega
  rw [e]
  by_cases hk : i < lo + min ys.length (hi - lo)
  ·rw [if_pos (by omega), if_pos ⟨h, hk⟩, List.getElem?_take_of_lt (by omega)]
  ·rw [if_neg (by omega), if_neg (by omega), List.getElem?_drop]
   congr 1
   omega
def cpE {β : Type} (tt : List (TypeId × Ty)) (h : List (Nat × Tree)) (d : Nat) (T : TypeId) (x y : AV) (K : Eff → Option β) : Option β :=
 match isSlcT tt T with
 | none => none
 | some u => match x with
   | .ref id [] => match lk h id with
     | some ⟨.osl σ, xs⟩ => bif sameLay u σ && Nat.beq σ.size 1 && σ.pure then
        (ysN h σ y).bind fun ys => K ⟨some (d, .val (.int .i64) ((min ys.length (xs.length - 0) : Nat) : Int)), [id], [(id, [])], [(id, ⟨.osl σ, cpL xs ys 0 xs.length⟩)]⟩
       else none
     | _ => none
   | .view id [] lo hi => match lk h id with
     | some ⟨.osl σ, xs⟩ => bif sameLay u σ && Nat.beq σ.size 1 && σ.pure then
        (ysN h σ y).bind fun ys => K ⟨some (d, .val (.int .i64) ((min ys.length (hi - lo) : Nat) : Int)), [id], [(id, [])], [(id, ⟨.osl σ, cpL xs ys lo hi⟩)]⟩
       else none
     | _ => none
   | _ => none
theorem Eff.appq_cons {d : Nat} {av : AV} {S : List Nat} {keep : List (Nat × List Step)} {put : List (Nat × Tree)} {st : St} : (Eff.mk (some (d, av)) S keep put).app st = ⟨(d, av) :: kill S keep st.g, put ++ del S st.h⟩ := by
 show St.mk ((d, av) :: killE S keep st.g) (put ++ delE S st.h) = _
 rw [killE_eq, delE_eq]
section
variable {E : Env} {C : Ctx} {st : St} {a : Act} {w : World} {I : Nat → Prop} {rt : Nat → List Value} {fp : Nat → List Nat} {o : Oper}
theorem ysN_yok (hR : RelAt C st a.tmps w I rt fp) {σ : Ty} {y : Operand} {ys : List σ.den} (h : ysN st.h σ (opA st.g y) = some ys) : YOk I C.B w σ (a.eval y) ys := by
 refine ysF_ok hR ?_
 have := ysN_ok h
 generalize ysF st.h σ (opA st.g y) = r at this
 cases r with
 | tot z => exact this.symm
 | part α φ k => obtain ⟨q, h1, rfl⟩ := this; exact ⟨q, h1, rfl⟩
 | bad => exact this.elim
theorem copy_core (hR : RelAt C st a.tmps w I rt fp) {β : Type} {r : β} {K : Eff → Option β} {T T' : TypeId} {x y : Operand} {d : Nat} (ho : o.op = .call { callee := .builtin .copy, args := #[x, y], argTypes := #[T, T'] }) (hd : o.dst = some d) (hdn : C.ok d)
  {next : Act → World → Prop} {X : Exit → Act → World → Prop} (hnext : ∀ st' a' w', (∃ e, K e = some r ∧ st' = e.app st) → a'.defers = a.defers → Rel C st' a'.tmps w' → next a' w')
  {u σ : Ty} (hT : isSlcT E.tt T = some u) (hl : sameLay u σ = true) (hsz : σ.size = 1) (hp : σ.pure = true) {id lo hi : Nat} {xs ys : List σ.den} (ht : lk st.h id = some ⟨.osl σ, xs⟩) (h1 : lo ≤ hi) (h2 : hi ≤ xs.length)
  (hy : YOk I C.B w σ (a.eval y) ys) {ad : Option Addr} {c : Nat} (hx : a.eval x = .slice ad (hi - lo) c) (hxa : hi - lo = 0 ∨ ∃ b off cap, rt id = [.slice (some ⟨b, off, none⟩) xs.length cap] ∧ ad = some ⟨b, off + lo, none⟩)
  (hK : K ⟨some (d, .val (.int .i64) ((min ys.length (hi - lo) : Nat) : Int)), [id], [(id, [])], [(id, ⟨.osl σ, cpL xs ys lo hi⟩)]⟩ = some r) : o.wp E.P a w next X := by
 obtain ⟨i, SS, q1, h5, h6⟩ := isSlcT.ok hT
 have h6' := h6.lay hl
 obtain ⟨ie, _, q5, _⟩ := h6'.info
 obtain ⟨t1, t2, t3⟩ := hR.tree id _ ht
 obtain ⟨yd, yc, fys, hyv, hey, hfy⟩ := hy
 -- what is known behind it
 have fin : ∀ w' : World, w'.heap.size = w.heap.size → w'.os = w.os → w'.tape = w.tape → w'.output = w.output → (∀ b, b ∉ fp id → w'.heap[b]? = w.heap[b]?) → (∀ b, mapOf w' b = mapOf w b) → Rep (md I C.B) w' (.osl σ) (rt id) (cpL xs ys lo hi) (fp id) →
   (Builtin.copy_ #[T, T'] o.type #[a.eval x, a.eval y]).run E.P w = .ok (goInt ((min ys.length (hi - lo) : Nat) : Int)) w' → o.wp E.P a w next X := by
  intro w' s1 s2 s3 s4 s5 sev s6 hrun
  have hrun : (execOp a.eval o).run E.P w = .ok (.value (goInt ((min ys.length (hi - lo) : Nat) : Int))) w' := by
   simp only [execOp, ho, resolve, invoke, builtin, Sem.run_bind, Sem.run_pure, Result.andThen_ok, List.map_toArray, List.map_cons, List.map_nil, hrun]
  have hu := hR.upd (S := [id]) (keep := [(id, [])]) (new := [(id, ⟨.osl σ, cpL xs ys lo hi⟩)]) (rtn := rt) (fpn := fp) (w' := w') (I' := I)
   ⟨Nat.le_of_eq s1.symm, s2, s3, s4, fun b hb hS => s5 b (hS id (by simp) _ ht), fun b _ => .of_eq (sev b), fun _ h => h, fun _ h => .inl h, (by
     intro i t' hi'
     rw [lk_cons] at hi'
     split at hi'
     ·rename_i e; subst e
      cases hi'
      exact ⟨.inl (by simp), s6, t2, fun b hb => ⟨(t3 b hb).1, by have := (t3 b hb).2.2.1; omega, .inr ⟨_, by simp, _, ht, hb⟩⟩⟩
     ·cases hi'), (by
     intro i j u1 u2 hi' hj' hij
     rw [lk_cons] at hi' hj'
     split at hi'
     ·split at hj'
      ·rename_i e1 e2; exact absurd (e1.symm.trans e2) hij
      ·cases hj'
     ·cases hi'), (by
     intro e he t' ht'
     simp only [List.mem_singleton] at he
     subst he
     have ht' : lk st.h id = some t' := ht'
     rw [ht] at ht'
     obtain rfl := Option.some.inj ht'
     exact ⟨⟨.osl σ, cpL xs ys lo hi⟩, by rw [lk_cons, if_pos rfl], rfl, rfl, ⟨_, rfl⟩, fun q _ _ _ hk => by rw [keepP_nil] at hk; cases hk⟩)⟩
  unfold Oper.wp
  rw [hrun]
  show next (a.put o.dst _) w'
  rw [hd]
  have hp := hu.put hdn (av := .val (.int .i64) ((min ys.length (hi - lo) : Nat) : Int)) (v := goInt ((min ys.length (hi - lo) : Nat) : Int)) (.val (τ := .int .i64) (cs := [.int .i64 _]) ⟨rfl, rfl⟩)
  have hrel : Rel C ((Eff.mk (some (d, .val (.int .i64) ((min ys.length (hi - lo) : Nat) : Int))) [id] [(id, [])] [(id, ⟨.osl σ, cpL xs ys lo hi⟩)]).app st) (a.put (some d) (goInt ((min ys.length (hi - lo) : Nat) : Int))).tmps w' := by
   rw [Eff.appq_cons]
   exact ⟨I, _, _, hp⟩
  exact hnext _ _ _ ⟨_, hK, rfl⟩ rfl hrel
 have hkk : Nat.min ys.length (hi - lo) = min ys.length (hi - lo) := rfl
 by_cases hk : min ys.length (hi - lo) = 0
 ·-- nothing goes over
  have hcp : cpL xs ys lo hi = xs := by
   apply List.ext_getElem?
   intro i
   rw [cpL_get h1 h2, if_neg (by omega)]
  refine fin w rfl rfl rfl rfl (fun _ _ => rfl) (fun _ => rfl) (by rw [hcp]; exact t1) ?_
  rw [hx, hyv, hk]
  exact run_copy_none w T T' o.type SS ad yd _ _ _ _ h5 (by rw [q5.info]; simp [q5.size, hsz]) (by rw [hkk]; exact hk)
 ·rcases hxa with h0 | ⟨b, off, cap, hrt, rfl⟩
  ·omega
  rw [hrt] at t1
  obtain ⟨ad', cap', e1, e2⟩ := t1
  simp only [List.cons.injEq, Value.slice.injEq, and_true] at e1
  obtain ⟨rfl, _, rfl⟩ := e1
  rcases e2 with ⟨e0, _⟩ | ⟨b', off', fps, e0, hfp, g1, g2, g3, g4⟩
  ·cases e0
  cases e0
  have g2 : xs.length ≤ cap := g2
  have g1 : fps.length = xs.length := g1
  have hfl : fps.flatten = [] := flatten_nil (fun f hf => by
   obtain ⟨i, hi', rfl⟩ := List.mem_iff_getElem.1 hf
   have hix : i < xs.length := by rw [← g1]; exact hi'
   obtain ⟨ds, _, _, d3⟩ := g4 i xs[i] fps[i] (by simp) (by simp)
   exact d3.pure hp)
  rw [hfl] at hfp
  obtain ⟨news, n1, n2, n3, n4⟩ := hey.cells (by omega)
  rw [hsz, Nat.mul_one] at n1
  have hyne : ys ≠ [] := fun e => by rw [e] at hk; simp at hk
  obtain ⟨ya, rfl⟩ : ∃ ya, yd = some ya := by
   rcases hey.2 with h | ⟨b2, o2, rfl, _⟩
   ·exact absurd h hyne
   ·exact ⟨_, rfl⟩
  let cs := news.take (min ys.length (hi - lo))
  have hcl : cs.length = min ys.length (hi - lo) := by simp [cs, n1]
  have hcsg : ∀ j v, cs[j]? = some v → news[j]? = some v := fun j v hj => by
   rw [List.getElem?_take] at hj
   split at hj
   ·exact hj
   ·cases hj
  have hcell : ∀ j, j < cs.length → (w.cell? ⟨b, off + lo + j, none⟩).isSome = true := fun j hj => (g3 (off + lo + j) (by omega) (by rw [hsz]; omega)).1
  have hrun := run_copy_cells (P := E.P) w T T' o.type SS b (off + lo) (hi - lo) c ya ys.length yc cs h5 (by rw [q5.info]; simp [q5.size, hsz]) (by rw [hcl])
   (fun j v hj => n3 ya rfl hyne j v (hcsg j v hj)) hcell (fun j hj => (g3 (off + lo + j) (by omega) (by rw [hsz]; omega)).2) (fun v hv => n2 v (List.mem_of_mem_take hv))
  have hbid : b ∈ fp id := by rw [hfp]; simp
  have hM : ∀ m k, md I C.B m k → k ≠ b := fun m k hm e => hR.notM ht b hbid m (e ▸ hm)
  refine fin (w.setCells b (off + lo) cs) (setCells_size b cs _ w) (setCells_rest b cs _ w).1 (setCells_rest b cs _ w).2.1 (setCells_rest b cs _ w).2.2 (fun k hk => setCells_ne b cs _ w k (fun e => hk (e ▸ hbid))) (fun k => mapOf_setCells _ _ _ _ _) ?_ ?_
  ·rw [hrt, hfp]
   refine ⟨some ⟨b, off, none⟩, cap, by rw [cpL_length h1 h2], .inr ⟨b, off, List.replicate xs.length [], rfl, by rw [flatten_nil (fun f hf => List.eq_of_mem_replicate hf)], by rw [cpL_length h1 h2]; simp, by rw [cpL_length h1 h2]; exact g2, ?_, ?_⟩⟩
   ·intro j j1 j2
    obtain ⟨z1, z2⟩ := g3 j j1 j2
    exact ⟨by rw [← z1, show j = (off + lo) + j - (off + lo) by omega]; exact (setCells_some b cs (off + lo) w hcell _).trans (by congr 1), by rw [World.frozen?_setCells]; exact z2⟩
   ·intro i z f hz hf
    have hfe : f = [] := by
     have := List.mem_of_getElem? hf
     exact List.eq_of_mem_replicate this
    subst hfe
    rw [cpL_get h1 h2] at hz
    have mono : ∀ {ds : List Value} {z : σ.den}, Rep (md I C.B) w σ ds z [] → Rep (md I C.B) (w.setCells b (off + lo) cs) σ ds z [] := fun hr => hr.mono (fun m k hm => ⟨hm, setCells_sm (hM m k hm)⟩) (by simp)
    split at hz
    ·rename_i hin
     have hj : i - lo < cs.length := by omega
     have hfyj : fys[i - lo]? = some [] := by
      have hl' : i - lo < fys.length := by rw [hey.1]; omega
      rw [List.getElem?_eq_getElem hl']
      have : fys[i - lo] ∈ fys := List.getElem_mem hl'
      congr 1
      exact (List.flatten_eq_nil_iff.1 hfy) _ this
     have hr := n4 (i - lo) z [] hz hfyj
     rw [hsz, Nat.mul_one] at hr
     have hds : (news.drop (i - lo)).take 1 = [cs[i - lo]] := by
      have hjn : i - lo < news.length := by omega
      rw [List.drop_eq_getElem_cons hjn]
      simp only [List.take_succ_cons, List.take_zero, List.cons.injEq, and_true]
      simp [cs]
     rw [hds] at hr
     refine ⟨[cs[i - lo]], by simp [hsz], ?_, mono hr⟩
     intro j v hv
     cases j with
     | zero =>
       simp only [List.getElem?_cons_zero, Option.some.injEq] at hv
       subst hv
       have := World.cell?_setCells_in b cs (off + lo) w hcell (i - lo) hj
       rw [← this, hsz]
       congr 2
       omega
     | succ j => simp at hv
    ·rename_i hout
     have hil : i < xs.length := (List.getElem?_eq_some_iff.1 hz).1
     obtain ⟨ds, d1, d2, d3⟩ := g4 i z (fps[i]'(by omega)) hz (by simp)
     have he : fps[i]'(by omega) = [] := d3.pure hp
     rw [he] at d3
     refine ⟨ds, d1, ?_, mono d3⟩
     intro j v hv
     have := d2 j v hv
     have hj : j < ds.length := (List.getElem?_eq_some_iff.1 hv).1
     rw [World.cell?_setCells_out b cs (off + lo) w _ (fun _ _ => ?_)]
     ·exact this
     ·rw [d1, hsz] at hj
      simp only [hsz]
      omega
  ·rw [hx, hyv]
   have : goInt ((min ys.length (hi - lo) : Nat) : Int) = goInt cs.length := by rw [hcl]
   rw [this]
   exact hrun
theorem OK1.copy {β : Type} {r : β} {K : Eff → Option β} {T T' : TypeId} {x y : Operand} {d : Nat} (ho : o.op = .call { callee := .builtin .copy, args := #[x, y], argTypes := #[T, T'] }) (hd : o.dst = some d) (hdn : C.ok d)
  (h : cpE E.tt st.h d T (opA st.g x) (opA st.g y) K = some r) : OK1 E C o st (fun s => ∃ e, K e = some r ∧ s = e.app st) := by
 rintro a w ⟨I, rt, fp, hR⟩ next X hnext
 have hx := hR.opA x
 unfold cpE at h
 split at h
 ·cases h
 rename_i u hu
 split at h
 ·rename_i id ex
  split at h
  case h_2 => cases h
  rename_i σ xs ht
  cases hb : (sameLay u σ && Nat.beq σ.size 1 && σ.pure) with
  | false => rw [hb] at h; cases h
  | true =>
  rw [hb] at h
  simp only [Bool.and_eq_true] at hb
  obtain ⟨ys, hys, h⟩ := Option.bind_eq_some_iff.1 h
  rw [ex] at hx
  generalize hv : a.eval x = v at hx
  cases hx with | ref ht' hn =>
  rw [ht] at ht'; cases ht'
  obtain ⟨rfl, rfl, rfl⟩ := Nav.nil_iff.1 hn
  have t1 := (hR.tree id _ ht).1
  obtain ⟨ad, cap, e1, e2⟩ := t1
  have hv' : a.eval x = .slice ad (xs.length - 0) cap := by rw [hv, e1]; rfl
  refine copy_core hR ho hd hdn hnext hu hb.1.1 (Nat.eq_of_beq_eq_true hb.1.2) hb.2 ht (Nat.zero_le _) (Nat.le_refl _) (ysN_yok hR hys) hv' ?_ h
  rcases e2 with ⟨_, rfl, _⟩ | ⟨b, off, fps, rfl, _⟩
  ·exact .inl rfl
  ·exact .inr ⟨b, off, cap, e1, rfl⟩
 ·rename_i id lo hi ex
  split at h
  case h_2 => cases h
  rename_i σ xs ht
  cases hb : (sameLay u σ && Nat.beq σ.size 1 && σ.pure) with
  | false => rw [hb] at h; cases h
  | true =>
  rw [hb] at h
  simp only [Bool.and_eq_true] at hb
  obtain ⟨ys, hys, h⟩ := Option.bind_eq_some_iff.1 h
  rw [ex] at hx
  generalize hv : a.eval x = v at hx
  cases hx with | viewE => (exact copy_core hR ho hd hdn hnext hu hb.1.1 (Nat.eq_of_beq_eq_true hb.1.2) hb.2 ht (Nat.le_refl _) (Nat.zero_le _) (ysN_yok hR hys) hv (.inl rfl) h) | view ht' hn l1 l2 l3 =>
  rw [ht] at ht'; cases ht'
  rename_i τ' loc b off len cap
  obtain ⟨e0, _, e3⟩ := Nav.nil_iff.1 hn
  have e0 : Ty.osl σ = Ty.osl τ' := e0
  cases e0
  have hsz := Nat.eq_of_beq_eq_true hb.1.2
  have t1 := (hR.tree id _ ht).1
  obtain ⟨ad, cap', e1, e2⟩ := t1
  rw [e1] at e3
  simp only [List.cons.injEq, Value.slice.injEq, and_true] at e3
  obtain ⟨rfl, rfl, rfl⟩ := e3
  refine copy_core hR ho hd hdn hnext hu hb.1.1 hsz hb.2 ht l1 l2 (ysN_yok hR hys) hv ?_ h
  by_cases hc : cap' = lo
  ·left; omega
  ·exact .inr ⟨b, off, cap', e1, by rw [if_neg hc, hsz, Nat.mul_one]⟩
 ·cases h
end
end Go.Fw
end
section
namespace Go.Fw
theorem Nav.cells {w w' : World} (h : ∀ a, w'.cell? a = w.cell? a) : ∀ {p : List Step} {τ τ' : Ty} {loc loc' : Loc} {cs cs' : List Value}, Nav w τ loc cs p τ' loc' cs' → Nav w' τ loc cs p τ' loc' cs'
 | [], τ, _, _, _, _, _, hn => by cases τ <;> exact hn
 | s :: p, τ, τ', loc, loc', cs, cs', hn => by
     have hat : ∀ {b o : Nat} {ds : List Value}, At w b o ds → At w' b o ds := fun ha j v hj => by rw [h]; exact ha j v hj
     cases τ <;> cases s <;> simp only [Nav] at hn
     case osl.idx t i =>
      obtain ⟨b, o, len, cap, ds, h1, h2, h3, h4, h5⟩ := hn
      exact ⟨b, o, len, cap, ds, h1, h2, h3, hat h4, h5.cells h⟩
     case optr.deref t =>
      obtain ⟨b, o, ds, h1, h2, h3, h4⟩ := hn
      exact ⟨b, o, ds, h1, h2, hat h3, h4.cells h⟩
     case st.unst t => exact Nav.cells h (τ := t) hn
     case pr.fst a b => exact Nav.cells h (τ := a) hn
     case pr.snd a b => exact Nav.cells h (τ := b) hn
theorem tyAt_nil (τ : Ty) : tyAt τ [] = some τ := by cases τ <;> rfl
theorem Nav.tyApp {w : World} {r : List Step} : ∀ {p : List Step} {τ τ' : Ty} {l l' : Loc} {cs cs' : List Value}, Nav w τ l cs p τ' l' cs' → tyAt τ (p ++ r) = tyAt τ' r
 | [], τ, _, _, _, _, _, h => by
     obtain ⟨rfl, _⟩ := Nav.nil_iff.1 h
     rfl
 | s :: p, τ, _, _, _, _, _, h => by
     cases τ <;> cases s <;> simp only [Nav] at h
     case osl.idx t i => obtain ⟨b, o, len, cap, ds, h1, h2, h3, h4, h5⟩ := h; exact h5.tyApp
     case optr.deref t => obtain ⟨b, o, ds, h1, h2, h3, h4⟩ := h; exact h4.tyApp
     case st.unst t => exact Nav.tyApp (p := p) (τ := t) h
     case pr.fst t1 t2 => exact Nav.tyApp (p := p) (τ := t1) h
     case pr.snd t1 t2 => exact Nav.tyApp (p := p) (τ := t2) h
section
variable {E : Env} {C : Ctx} {st : St} {a : Act} {tm : Array Value} {w : World} {I : Nat → Prop} {rt : Nat → List Value} {fp : Nat → List Nat} {o : Oper} {Q : St → Prop}
theorem RelAt.mapw (hR : RelAt C st tm w I rt fp) {id : Nat} {t : Tree} (ht : lk st.h id = some t) {p : List Step} {τ τ' : Ty} {loc : Loc} {cs : List Value} (hn : Nav w t.1 none (rt id) p τ' loc cs) {l : List (Int × τ.den)} {c : Nat} (hg : GetP t.1 t.2 p (.mp τ) (some (l, c))) :
  ∃ b es L, cs = [.map (some b)] ∧ b ∈ fp id ∧ (∀ m k, md I C.B m k → k ≠ b) ∧ MapR (md I C.B) w τ b l c es L ∧ ∀ {es' : Array MapEntry} {c' : Nat} {l' : List (Int × τ.den)} {L' : List (Int × Nat × τ.den)} {z : t.1.den},
    MapR (md I C.B) (setM w b es' c') τ b l' c' es' L' → Evo w (setM w b es' c') b → SetP t.1 t.2 p (.mp τ) (some (l', c')) z →
    ∃ rtn fpn, RelAt C ⟨kill [id] [(id, p ++ [.deref])] st.g, (id, ⟨t.1, z⟩) :: del [id] st.h⟩ tm (setM w b es' c') I rtn fpn := by
 obtain ⟨hr, hnodup, hblk⟩ := hR.tree id t ht
 obtain ⟨loc', cs1, f', rest, g1, g2, g3, g4, g5, g6⟩ := focus p (loc := none) hr (fun _ _ h => by cases h) hnodup (fun _ _ h => by cases h) (hR.notM ht) hg
 obtain ⟨e0, e1, e2⟩ := hn.det g1
 subst e0; subst e1; subst e2
 obtain ⟨b, es, L, rfl, rfl, hM⟩ := g2.mpE
 have hb : b ∈ fp id := g4.mem_iff.2 (by simp)
 have hMb : ∀ m k, md I C.B m k → k ≠ b := fun m k hk e => hR.notM ht b hb m (e ▸ hk)
 refine ⟨b, es, L, rfl, hb, hMb, hM, ?_⟩
 intro es' c' l' L' z hM' hev hs
 have hnd2 := g4.nodup_iff.1 hnodup
 rw [List.nodup_append] at hnd2
 have hrest : ∀ k ∈ rest, k ≠ b := fun k hk e => hnd2.2.2 b (by simp) k hk e.symm
 have hcell := setM_cell (es' := es') (c' := c') hM.h
 have hfroz := setM_frozen (es' := es') (c' := c') hM.h
 have hsm : ∀ k, k ≠ b → Sm w (setM w b es' c') k := fun k hk => setM_sm hk
 obtain ⟨cs3, f3, k1, _, k2, _, k3, _, k10⟩ := g6 (setM w b es' c') (md I C.B) [.map (some b)] (some (l', c')) [b] z (fun _ _ h => h)
  (fun k hk => by
    have hkb : k ≠ b := by
     rcases hk with ⟨m, hm⟩ | hk | ⟨o, ho⟩
     ·exact hMb m k hm
     ·exact hrest k hk
     ·cases ho
    exact ⟨fun j _ => hcell _, fun j => hfroz _, fun j => by rw [hcell], (hsm k hkb).2⟩)
  (Rep.mpI hM') (fun _ _ => rfl) (fun b1 o1 e => by
    have := (g3 b1 o1 e).1
    exact fun j v hj => by rw [hcell]; exact this j v hj) hs
 obtain rfl := k2 rfl (.inr rfl)
 have hlt := (hblk b hb).2.2.1
 have hu : UpdOk C st w (setM w b es' c') I I rt fp [id] [(id, p ++ [.deref])] [(id, ⟨t.1, z⟩)] (fun _ => rt id) (fun _ => f3) := by
  refine ⟨by rw [setM_size]; exact Nat.le_refl _, rfl, rfl, rfl, ?_, ?_, fun _ h => h, fun _ h => .inl h, ?_, ?_, ?_⟩
  ·intro k _ hk
   exact setM_ne (fun e => hk id (by simp) t ht (e ▸ hb))
  ·intro k _
   by_cases e : k = b
   ·subst e; exact hev
   ·exact .of_heap (setM_ne e)
  ·intro i u hu
   rw [lk_cons] at hu
   split at hu
   ·rename_i e
    subst e
    cases hu
    refine ⟨.inl (by simp), k1, ?_, fun k hk => ?_⟩
    ·rw [k3.nodup_iff, ← g4.nodup_iff]; exact hnodup
    ·have hk' : k ∈ fp id := g4.mem_iff.2 (k3.mem_iff.1 hk)
     obtain ⟨q1, q2, q3, q4⟩ := hblk k hk'
     exact ⟨q1, by rw [setM_size]; exact q3, .inr ⟨id, by simp, t, ht, hk'⟩⟩
   ·cases hu
  ·intro i j u v hi hj hij
   rw [lk_cons] at hi hj
   split at hi
   ·split at hj
    ·rename_i e1 e2; exact absurd (e1.symm.trans e2) hij
    ·cases hj
   ·cases hi
  ·intro i hi u hu
   simp only [List.mem_singleton] at hi
   subst hi
   rw [ht] at hu
   obtain rfl := Option.some.inj hu
   refine ⟨⟨t.1, z⟩, by rw [lk_cons, if_pos rfl], rfl, rfl, ?_, fun q τq lq cq _ hq => hq.cells hcell⟩
   have h1 := hn.tyApp (r := [.deref])
   have : ∃ τp, tyAt (.mp τ) [.deref] = some τp := ⟨τ, tyAt_nil τ⟩
   rw [h1]; exact this
 exact ⟨_, _, hR.upd hu⟩
def mUpO {α : Type} (m : Option (List (Int × α) × Nat)) (k : Int) (v : α) : Option (Option (List (Int × α) × Nat)) := match m with
 | none => none
 | some q => some (some (mPut q.1 k v, bif (mGet q.1 k).isSome then q.2 else q.2 + 1))
def mupE {β : Type} (tt : List (TypeId × Ty)) (h : List (Nat × Tree)) (T : TypeId) (x k v : AV) (K : Eff → Option β) : Option β :=
 match x with
 | .ref id p => match lk h id with
   | some τx => match isMapT tt T, k, v with
     | some u, .val (.int .i64) k, .val τ y => match tyAt τx.1 p with
       | some (.mp t) => bif sameLay u t then match castT t y with
         | some y => (getF τx.1 τx.2 p (.mp t)).bind fun mm => (mUpO (α := t.den) mm k y).bind fun mm' => (setF τx.1 τx.2 p (.mp t) mm').bind fun z => K ⟨none, [id], [(id, p ++ [.deref])], [(id, ⟨τx.1, z⟩)]⟩
         | none => none
         else none
       | _ => none
     | _, _, _ => none
   | none => none
 | _ => none
def mDlO {α : Type} (m : Option (List (Int × α) × Nat)) (k : Int) : Option (Option (List (Int × α) × Nat)) := match m with
 | none => none
 | some q => some (some (mDel q.1 k, q.2))
def mdlE {β : Type} (tt : List (TypeId × Ty)) (h : List (Nat × Tree)) (T : TypeId) (x k : AV) (K : Eff → Option β) : Option β :=
 match x with
 | .ref id p => match lk h id with
   | some τx => match isMapT tt T, k with
     | some u, .val (.int .i64) k => match tyAt τx.1 p with
       | some (.mp t) => bif sameLay u t then
         (getF τx.1 τx.2 p (.mp t)).bind fun mm => (mDlO (α := t.den) mm k).bind fun mm' => (setF τx.1 τx.2 p (.mp t) mm').bind fun z => K ⟨none, [id], [(id, p ++ [.deref])], [(id, ⟨τx.1, z⟩)]⟩
         else none
       | _ => none
     | _, _ => none
   | none => none
 | _ => none
theorem mup_sound {β : Type} {r : β} {K : Eff → Option β} {T : TypeId} {x k v : Operand} (ho : o.op = .mapUpdate T x k v) (hdst : o.dst = none) (h : mupE E.tt st.h T (opA st.g x) (opA st.g k) (opA st.g v) K = some r) :
  OK1 E C o st (fun s => ∃ e, K e = some r ∧ s = e.app st) := by
 rintro a w ⟨I, rt, fp, hR⟩ next X hnext
 have hx := hR.opA x
 have hk := hR.opA k
 have hv := hR.opA v
 unfold mupE at h
 split at h
 case h_2 => cases h
 rename_i id p ex
 split at h
 case h_2 => cases h
 rename_i τx ht
 split at h
 case h_2 => cases h
 rename_i u n τ y0 hT ek ev
 obtain ⟨KT, S, t1, t2, t3⟩ := isMapT.ok hT
 split at h
 case h_2 => cases h
 rename_i t hty
 cases hb : sameLay u t with
 | false => rw [hb] at h; cases h
 | true =>
 rw [hb] at h
 simp only [cond_true] at h
 split at h
 case h_2 => cases h
 rename_i y hy
 obtain ⟨mm, hg, h1⟩ := Option.bind_eq_some_iff.1 h
 obtain ⟨mm', hm, h2⟩ := Option.bind_eq_some_iff.1 h1
 obtain ⟨z, hz, h3⟩ := Option.bind_eq_some_iff.1 h2
 cases mm with
 | none => cases hm
 | some q =>
 obtain ⟨l, c⟩ := q
 cases hm
 cases castT_some hy
 rw [ex] at hx
 rw [ek] at hk
 rw [ev] at hv
 generalize hxv : a.eval x = xv at hx
 generalize hkv : a.eval k = kv at hk
 generalize hvv : a.eval v = vv at hv
 cases hk with | val rk =>
 obtain ⟨_, rfl⟩ := rk
 cases hv with | val rv =>
 cases hx with | ref ht' hn =>
 rw [ht] at ht'; cases ht'
 obtain ⟨b, es, L, rfl, hb, hMb, hM, hfin⟩ := hR.mapw ht hn (getF_ok hg)
 have := hn.ty
 rw [hty] at this; cases this
 obtain ⟨es', L', q1, q2, q3⟩ := hM.update (P := E.P) t1 t2 n rv.len rv
 obtain ⟨rtn, fpn, hR'⟩ := hfin (q2 (fun m k hk => ⟨hk, hMb m k hk⟩)) q3 (setF_ok hz)
 unfold Oper.wp
 have hrun : (execOp a.eval o).run E.P w = .ok .skip (setM w b es' (bif (mGet l n).isSome then c else c + 1)) := by
  simp only [execOp, ho, hxv, hkv, hvv, Sem.run_bind]
  have this : ∀ t : Ty, regV (.mp t) [Value.map (some b)] = .map (some b) := fun _ => rfl
  rw [this, show regV (.int .i64) [Value.int .i64 n] = .int .i64 n from rfl, q1]
  rfl
 rw [hrun]
 show next (a.put o.dst undef) _
 rw [hdst]
 refine hnext _ _ _ ⟨_, h3, ?_⟩ rfl ⟨I, rtn, fpn, hR'⟩
 rfl
theorem mdl_sound {β : Type} {r : β} {K : Eff → Option β} {T T2 : TypeId} {x k : Operand} (ho : o.op = .call { callee := .builtin .delete, args := #[x, k], argTypes := #[T, T2] }) (hdst : o.dst = none) (h : mdlE E.tt st.h T (opA st.g x) (opA st.g k) K = some r) :
  OK1 E C o st (fun s => ∃ e, K e = some r ∧ s = e.app st) := by
 rintro a w ⟨I, rt, fp, hR⟩ next X hnext
 have hx := hR.opA x
 have hk := hR.opA k
 unfold mdlE at h
 split at h
 case h_2 => cases h
 rename_i id p ex
 split at h
 case h_2 => cases h
 rename_i τx ht
 split at h
 case h_2 => cases h
 rename_i u n hT ek
 obtain ⟨KT, S, t1, t2, t3⟩ := isMapT.ok hT
 split at h
 case h_2 => cases h
 rename_i t hty
 cases hb : sameLay u t with
 | false => rw [hb] at h; cases h
 | true =>
 rw [hb] at h
 simp only [cond_true] at h
 obtain ⟨mm, hg, h1⟩ := Option.bind_eq_some_iff.1 h
 obtain ⟨mm', hm, h2⟩ := Option.bind_eq_some_iff.1 h1
 obtain ⟨z, hz, h3⟩ := Option.bind_eq_some_iff.1 h2
 cases mm with
 | none => cases hm
 | some q =>
 obtain ⟨l, c⟩ := q
 cases hm
 rw [ex] at hx
 rw [ek] at hk
 generalize hxv : a.eval x = xv at hx
 generalize hkv : a.eval k = kv at hk
 cases hk with | val rk =>
 obtain ⟨_, rfl⟩ := rk
 cases hx with | ref ht' hn =>
 rw [ht] at ht'; cases ht'
 obtain ⟨b, es, L, rfl, hb, hMb, hM, hfin⟩ := hR.mapw ht hn (getF_ok hg)
 have := hn.ty
 rw [hty] at this; cases this
 obtain ⟨es', L', q1, q2, q3⟩ := hM.delete (P := E.P) t1 t2 n o.type T2
 obtain ⟨rtn, fpn, hR'⟩ := hfin (q2 (fun m k hk => ⟨hk, hMb m k hk⟩)) q3 (setF_ok hz)
 unfold Oper.wp
 have hrun : (execOp a.eval o).run E.P w = .ok (.value (.tuple #[])) (setM w b es' c) := by
  simp only [execOp, ho, resolve, invoke, builtin, Sem.run_bind, Sem.run_pure, Result.andThen_ok, List.map_toArray, List.map_cons, List.map_nil, hxv, hkv]
  have this : ∀ t : Ty, regV (.mp t) [Value.map (some b)] = .map (some b) := fun _ => rfl
  rw [this, show regV (.int .i64) [Value.int .i64 n] = .int .i64 n from rfl, q1]
  rfl
 rw [hrun]
 show next (a.put o.dst (.tuple #[])) _
 rw [hdst]
 refine hnext _ _ _ ⟨_, h3, ?_⟩ rfl ⟨I, rtn, fpn, hR'⟩
 rfl
def ownY (h : List (Nat × Tree)) (x y : AV) : Option (Nat × List Step × Nat × Tree) := match x, y with
 | .ref id (s :: p), .ref id2 [] => match lk h id2 with
   | some t => match t.1 with
     | .osl σ => match σ.pure with
       | true => none
       | false => some (id, s :: p, id2, t)
     | _ => none
   | none => none
 | _, _ => none
def appP {β : Type} (tt : List (TypeId × Ty)) (h : List (Nat × Tree)) (d : Nat) (T : TypeId) (id : Nat) (p : List Step) (id2 : Nat) (t2 : Tree) (K : Eff → Option β) : Option β :=
 match isSlcT tt T, lk h id, lk h d with
 | some u, some τx, none => match tyAt τx.1 p with
   | some (.osl σ) => match castT (.osl σ) t2.2 with
     | some ys => bif sameLay u σ && (Nat.ble σ.size 1300 && (σ.nb && !(Nat.beq id2 id))) then
        (getF τx.1 τx.2 p (.osl σ)).bind fun xs => (limO (List.length (α := σ.den) xs + List.length (α := σ.den) ys)).bind fun _ => K ⟨some (d, .app id p σ ys [d, id2]), [id], [(id, p), (id, [])], [(d, ⟨.blk, ()⟩), (id, τx)]⟩
       else none
     | none => none
   | _ => none
 | _, _, _ => none
def appX {β : Type} (tt : List (TypeId × Ty)) (an : List (Nat × Ty)) (h : List (Nat × Tree)) (d : Nat) (T : TypeId) (x y : AV) (K : Eff → Option β) : Option β := match ownY h x y with
 | some (id, p, id2, t) => appP tt h d T id p id2 t K
 | none => appE tt an h d T x y K
theorem ownY_some {h : List (Nat × Tree)} {x y : AV} {id : Nat} {p : List Step} {id2 : Nat} {t : Tree} (hh : ownY h x y = some (id, p, id2, t)) : x = .ref id p ∧ y = .ref id2 [] ∧ lk h id2 = some t := by
 unfold ownY at hh
 split at hh
 ·split at hh
  ·rename_i t' ht
   split at hh
   ·split at hh
    ·cases hh
    ·cases hh; exact ⟨rfl, rfl, ht⟩
   ·cases hh
  ·cases hh
 ·cases hh
theorem appX_ok {β : Type} {r : β} {K : Eff → Option β} {an : List (Nat × Ty)} {T : TypeId} {x y : Operand} {d : Nat} (ho : o.op = .call { callee := .builtin .append, args := #[x, y], argTypes := #[T, T] }) (hd : o.dst = some d) (hdn : C.ok d) (h : appX E.tt an st.h d T (opA st.g x) (opA st.g y) K = some r) :
  OK1 E C o st (fun s => ∃ e, K e = some r ∧ s = e.app st) := by
 unfold appX at h
 split at h
 case h_2 => exact OK1.app ho hd hdn (appE_ok h (fun e he => ⟨e, he, rfl⟩))
 rename_i id p id2 t2 hown
 obtain ⟨hex, hey, ht2⟩ := ownY_some hown
 unfold appP at h
 split at h
 case h_2 => cases h
 rename_i u τx hT ht hdf
 split at h
 case h_2 => cases h
 rename_i σ hty
 split at h
 case h_2 => cases h
 rename_i ys hys
 cases hb : (sameLay u σ && (Nat.ble σ.size 1300 && (σ.nb && !(Nat.beq id2 id)))) with
 | false => rw [hb] at h; cases h
 | true =>
 rw [hb] at h
 simp only [Bool.and_eq_true] at hb
 obtain ⟨hl, hsz, hnb, hne⟩ := hb
 have hne : id2 ≠ id := fun e => by subst e; rw [Nat.beq_refl] at hne; cases hne
 obtain ⟨xs, hx, h1⟩ := Option.bind_eq_some_iff.1 h
 obtain ⟨_, hlim, h2⟩ := Option.bind_eq_some_iff.1 h1
 obtain ⟨τ2, y2⟩ := t2
 cases castT_some hys
 rintro a w ⟨I, rt, fp, hR⟩ next X hnext
 refine append_placeS (S2 := [id2]) ho hd hdn hR hnext hT hl (Nat.le_of_ble_eq_true hsz) hnb hex ht hdf (getF_ok hx) ?_ ?_ (limO_some hlim) ⟨_, h2, rfl⟩
 ·have hy := hR.opA y
  rw [hey] at hy
  generalize hvv : a.eval y = vv at hy
  cases hy with | ref ht' hn' =>
  rw [ht2] at ht'; cases ht'
  obtain ⟨rfl, rfl, rfl⟩ := Nav.nil_iff.1 hn'
  obtain ⟨r1, r2, r3⟩ := hR.tree id2 _ ht2
  have r0 := r1
  obtain ⟨ad, cap, hrt, hrest⟩ := r0
  have r1' : Rep (md I C.B) w (.osl σ) [.slice ad (List.length (α := σ.den) y2) cap] y2 (fp id2) := by rw [← hrt]; exact r1
  obtain ⟨_, _, fys, he, hf1, hf2, _⟩ := Elems.osl r1'
  exact ⟨ad, cap, fys, by rw [hrt]; rfl, he, hf2 r2, fun b hb => ⟨id2, by simp, _, ht2, hf1 b hb⟩⟩
 ·intro i hi
  simp only [List.mem_singleton] at hi
  subst hi
  exact ⟨hne, _, ht2⟩
end
end Go.Fw
end
section
namespace Go.Fw
structure XR where
 c : Code
 n : Nat
 pin : Option (List Nat)
 ds : List Nat
 α : Type
 f : St → Option α
 g : St → α → St
structure IC where
 tt : List (TypeId × Ty)
 tbl : List (Nat × Fun)
 an : List (Nat × Ty)
 n : Nat
 pin : List Nat
 kg : List (Nat × AV)
 fz : List (Nat × Nat)
 slf : Option (Nat × Nat × List Nat)
 fT : List TypeId
 xt : List XR
def FnF (P : Program) (T : TypeId) : Prop := ∃ i z d, P.info? T = some i ∧ i.size = 1 ∧ i.zero = some z ∧ z.cells.size = 1 ∧ P.underlying T = some d ∧ (match d with | .struct _ | .array _ _ => true | _ => false) = false
def fits : List PM → List AV → Bool
 | .c n _ :: l, .clo m _ :: as => Nat.beq m n && fits l as
 | .c _ _ :: _, _ => false
 | _ :: l, _ :: as => fits l as
 | _, _ => true
def lkFit : List (Nat × Fun) → Nat → List AV → Option Fun
 | [], _, _ => none
 | (k, F) :: l, f, as => bif Nat.beq k f && (fits F.ps as && (selfP 0 F.ps).isNone) then some F else lkFit l f as
theorem lkFit_mem : ∀ {l : List (Nat × Fun)} {f : Nat} {as : List AV} {F : Fun}, lkFit l f as = some F → ∃ k, (k, F) ∈ l
 | [], _, _, _, h => by cases h
 | (k, G) :: l, f, as, F, h => by
     simp only [lkFit] at h
     cases hb : (Nat.beq k f && (fits G.ps as && (selfP 0 G.ps).isNone)) with
     | true => rw [hb] at h; cases h; exact ⟨k, by simp⟩
     | false =>
       rw [hb] at h
       obtain ⟨k', hk⟩ := lkFit_mem h
       exact ⟨k', by simp [hk]⟩
theorem lkFit_noS : ∀ {l : List (Nat × Fun)} {f : Nat} {as : List AV} {F : Fun}, lkFit l f as = some F → selfP 0 F.ps = none
 | [], _, _, _, h => by cases h
 | (k, G) :: l, f, as, F, h => by
     simp only [lkFit] at h
     cases hb : (Nat.beq k f && (fits G.ps as && (selfP 0 G.ps).isNone)) with
     | true =>
       rw [hb] at h; cases h
       simp only [Bool.and_eq_true] at hb
       exact Option.isNone_iff_eq_none.1 hb.2.2
     | false =>
       rw [hb] at h
       exact lkFit_noS h
def embK (ic : IC) (sh : Shp) (s : sh.den) : St := ⟨ic.kg ++ embG sh.g s, embH sh.h (embR sh.g s)⟩
def slotOk (n : Nat) (pin : List Nat) (d : Nat) : Bool := Nat.blt d n && !(memN d pin)
noncomputable def e1 (ic : IC) {β : Type} (g : Operand → AV) (h : List (Nat × Tree)) (o : Oper) (K : Eff → Option β) : Option β :=
 match o.dst with
 | none => match o.op with
   | .store T x v => stoE ic.tt h T (g x) (g v) K
   | .mapUpdate T x k v => mupE ic.tt h T (g x) (g k) (g v) K
   | .call { callee := .builtin .delete, args := xs, argTypes := ts } => match xs.toList, ts.toList with
     | [x, k], [T, _] => mdlE ic.tt h T (g x) (g k) K
     | _, _ => none
   | _ => none
 | some d => bif slotOk ic.n ic.pin d then
    match o.op with
    | .pick c x y => match g c with
      | .val .bool b => (match g x, g y with
        | .val τ u, .val τ' v => match castT (τ := τ') τ v with
          | some v => K ⟨some (d, .val τ (bif b then u else v)), [], [], []⟩
          | none => none
        | u, v => match b with
          | true => K ⟨some (d, u), [], [], []⟩
          | false => K ⟨some (d, v), [], [], []⟩)
      | _ => none
    | .call { callee := .value z, args := xs, argTypes := _ } => match g z with
      | .clo f l =>
        match lkFit ic.tbl f (xs.toList.map g ++ l) with
        | none => none
        | some F => bif Nat.beq F.f f then
           getK h (takenP (xs.toList.map g ++ l) F.ps) F.ps (xs.toList.map g ++ l) fun a => (F.sem a).bind fun b => bif callChk d ⟨[], h⟩ (xs.toList.map g ++ l) (mkA F.ps a b) (mkR F.rs (outR F.ps b)) then
             K ⟨some (d, resAV d (mkR F.rs (outR F.ps b))), takenIds (xs.toList.map g ++ l) (mkA F.ps a b), kp0 (keptIds (xs.toList.map g ++ l) (mkA F.ps a b)),
               outTrees (xs.toList.map g ++ l) (mkA F.ps a b) ++ resTrees d (isSingle (mkR F.rs (outR F.ps b))) 0 (mkR F.rs (outR F.ps b))⟩ else none
          else none
      | _ => none
    | .call { callee := .builtin .append, args := xs, argTypes := ts } => match xs.toList, ts.toList with
      | [x, y], [T, T'] => bif Nat.beq T T' then appX ic.tt ic.an h d T (g x) (g y) K else none
      | _, _ => none
    | .call { callee := .builtin .copy, args := xs, argTypes := ts } => match xs.toList, ts.toList with
      | [x, y], [T, _] => cpE ic.tt h d T (g x) (g y) K
      | _, _ => none
    | .assign x => match g x with
      | .val τ y => K ⟨some (d, .val τ y), [], [], []⟩
      | .clo f l => K ⟨some (d, .clo f l), [], [], []⟩
      | .addr id p => K ⟨some (d, .addr id p), [], [], []⟩
      | .cv v => match lk ic.an d with
        | none => K ⟨some (d, .cv v), [], [], []⟩
        | some τ => match τ.pure && cvOk τ v with
          | true => (cvC τ v.cells.toList).bind fun y => K ⟨some (d, .val τ y), [], [], []⟩
          | false => (asgE ic.an h d (.cv v)).bind K
      | v => (asgE ic.an h d v).bind K
    | .build T ps => bldE ic.tt ic.an h g d T ps.toList K
    | .box T x => boxE ic.tt ic.an h d T (g x) K
    | .buildSlice T n ps => bslE ic.tt ic.an h g d T n ps.toList K
    | _ => match evalN ic.tt ic.an h g d o.op with
      | .tot av => K ⟨some (d, av), [], [], []⟩
      | .opt _ y f => y.bind fun q => K ⟨some (d, f q), [], [], []⟩
      | .new _ y t e => bif Nat.beq e d then y.bind fun q => K ⟨some (d, .ref d []), [], [], [(d, t q)]⟩ else none
      | .no => match evalF ic.tt ic.an h g d o.op with
        | .tot av new => K ⟨some (d, av), [], [], new⟩
        | .part _ φ f => (pick φ).bind fun q => K ⟨some (d, (f q).1), [], [], (f q).2⟩
        | .bad => none
   else none
def canFrz (h : List (Nat × Tree)) (F : List Nat) : Bool := F.all fun id => match lk h id with | some t => frzOkT t.1 | none => false
noncomputable def eF (ic : IC) {β : Type} (g : Operand → AV) (h : List (Nat × Tree)) (o : Oper) (K : Eff → Option β) : Option β :=
 match frzIds ic.fz (frzKey o) g (valOps o.op) with
 | [] => e1 ic g h o K
 | F => bif canFrz h F then e1 ic (fun x => frzAV h F (g x)) (del F h) o fun e => bif e.keep.all (fun i => !memN i.1 F) then K ⟨e.d, F ++ e.S, e.keep, e.put⟩ else none else none
def isM : PM → Bool
 | .m _ => true
 | _ => false
def subOf (ic : IC) (g : Operand → AV) (o : Oper) : Option (Nat × List Step) := match o.op with
 | .call { callee := .value z, args := xs, argTypes := _ } => match g z with
   | .clo f l => match lkFit ic.tbl f (xs.toList.map g ++ l) with
     | some F => subAt (xs.toList.map g ++ l) (F.ps.map isM)
     | none => none
   | _ => none
 | _ => none
noncomputable def eS (ic : IC) {β : Type} (id : Nat) (s : Step) (p : List Step) (g : Operand → AV) (h : List (Nat × Tree)) (o : Oper) (K : Eff → Option β) : Option β :=
 match o.dst with
 | none => none
 | some d => bif slotOk ic.n ic.pin d then
   match o.op with
   | .call { callee := .value z, args := xs, argTypes := _ } => match g z with
     | .clo f l =>
       match lkFit ic.tbl f (xs.toList.map g ++ l) with
       | none => none
       | some F => bif Nat.beq F.f f then
         match lk h id with
         | none => none
         | some t => match tyAt t.1 (s :: p) with
           | none => none
           | some τ' => match getF t.1 t.2 (s :: p) τ' with
             | none => none
             | some y => match getA ((id, ⟨τ', y⟩) :: del [id] h) (takenP (spL id (xs.toList.map g ++ l) (F.ps.map isM)) F.ps) F.ps (spL id (xs.toList.map g ++ l) (F.ps.map isM)) with
               | none => none
               | some a => (F.sem a).bind fun b => bif callChk d ⟨[], (id, ⟨τ', y⟩) :: del [id] h⟩ (spL id (xs.toList.map g ++ l) (F.ps.map isM)) (mkA F.ps a b) (mkR F.rs (outR F.ps b)) &&
                  (memN id (takenIds (spL id (xs.toList.map g ++ l) (F.ps.map isM)) (mkA F.ps a b)) && memN id (keptIds (spL id (xs.toList.map g ++ l) (F.ps.map isM)) (mkA F.ps a b))) then
                 match lk (outTrees (spL id (xs.toList.map g ++ l) (F.ps.map isM)) (mkA F.ps a b) ++ resTrees d (isSingle (mkR F.rs (outR F.ps b))) 0 (mkR F.rs (outR F.ps b))) id with
                 | none => none
                 | some t2 => match castT τ' t2.2 with
                   | none => none
                   | some y' => (setF t.1 t.2 (s :: p) τ' y').bind fun z =>
                      K ⟨some (d, resAV d (mkR F.rs (outR F.ps b))), takenIds (spL id (xs.toList.map g ++ l) (F.ps.map isM)) (mkA F.ps a b), (id, s :: p) :: kp0 (keptIds (spL id (xs.toList.map g ++ l) (F.ps.map isM)) (mkA F.ps a b)),
                        (id, ⟨t.1, z⟩) :: (outTrees (spL id (xs.toList.map g ++ l) (F.ps.map isM)) (mkA F.ps a b) ++ resTrees d (isSingle (mkR F.rs (outR F.ps b))) 0 (mkR F.rs (outR F.ps b)))⟩
                 else none
         else none
     | _ => none
   | _ => none
   else none
noncomputable def i1 (ic : IC) {β : Type} (st : St) (o : Oper) (K : St → Option β) : Option β :=
 match subOf ic (opA st.g) o with
 | some (id, s :: p) => eS ic id s p (opA st.g) st.h o fun e => K (e.app st)
 | _ => eF ic (opA st.g) st.h o fun e => K (e.app st)
noncomputable def iL (ic : IC) {β : Type} (ops : Array Oper) : List Nat → St → (St → Option β) → Option β
 | [], st, K => K st
 | i :: l, st, K => match ops[i]? with
   | none => none
   | some o => match o.guard with
     | none => i1 ic st o fun s => iL ic ops l s K
     | some (j, want) => match (ops[j]?).bind (·.dst), o.dst with
       | some dj, some d => match gt st.g dj with
         | .val .bool x => bif slotOk ic.n ic.pin d then
            (match x == want with
            | true => i1 ic ⟨(dj, .val .bool want) :: st.g, st.h⟩ o fun s => iL ic ops l s K
            | false => iL ic ops l ⟨(d, .cv undef) :: (dj, .val .bool (!want)) :: st.g, st.h⟩ K) else none
         | .cv (.tuple _) => bif slotOk ic.n ic.pin d then iL ic ops l ⟨(d, .cv undef) :: st.g, st.h⟩ K else none
         | _ => none
       | _, _ => none
section
variable {E : Env} {C : Ctx} {ic : IC} {β : Type}
def IC.Ok (E : Env) (C : Ctx) (ic : IC) : Prop := ic.tt = E.tt ∧ ic.n = C.n ∧ ic.pin = C.pin ∧ ((∀ q ∈ ic.tbl, OkFun E q.2) ∧ SelfC C ic.slf ∧ ∀ T ∈ ic.fT, FnF E.P T) ∧ KG C ic.kg
theorem slotOk.ok (h : ic.Ok E C) {d : Nat} (hd : slotOk ic.n ic.pin d = true) : C.ok d := by
 obtain ⟨_, h2, h3, _, _⟩ := h
 rw [h2, h3] at hd
 simp only [slotOk, Bool.and_eq_true] at hd
 exact ⟨Nat.le_of_ble_eq_true hd.1, fun hm => by have h2 := hd.2; rw [memN_iff.2 hm] at h2; cases h2⟩
theorem Rel.same {tm : Array Value} {w : World} {st st' : St} (hg : ∀ k, gt st'.g k = gt st.g k) (hh : st'.h = st.h) (h : Rel C st tm w) : Rel C st' tm w := by
 obtain ⟨I, rt, fp, hR⟩ := h
 exact ⟨I, rt, fp, { hR with tree := by rw [hh]; exact hR.tree, dis := by rw [hh]; exact hR.dis, tmp := fun k => by rw [hh, hg]; exact hR.tmp k }⟩
theorem OJ.same {ops : Array Oper} {l : List Nat} {st st' : St} {Q : St → Prop} (hg : ∀ k, gt st'.g k = gt st.g k) (hh : st'.h = st.h) (h : OJ E C ops l st' Q) : OJ E C ops l st Q :=
 fun a w hR => h a w (hR.same hg hh)
theorem Eff.app_cons {d : Nat} {av : AV} {S : List Nat} {keep : List (Nat × List Step)} {put : List (Nat × Tree)} {st : St} : (Eff.mk (some (d, av)) S keep put).app st = ⟨(d, av) :: kill S keep st.g, put ++ del S st.h⟩ := by
 show St.mk ((d, av) :: killE S keep st.g) (put ++ delE S st.h) = _
 rw [killE_eq, delE_eq]
theorem e1q_ok (hic : ic.Ok E C) {o : Oper} {st : St} {K : Eff → Option β} {r : β} (h : e1 ic (opA st.g) st.h o K = some r) : OK1 E C o st (fun s => ∃ e, K e = some r ∧ s = e.app st) := by
 obtain ⟨htt, hn, hpin, htbl, _⟩ := id hic
 unfold e1 at h
 split at h
 ·rename_i hd
  split at h
  ·rename_i T x v hop
   rw [htt] at h
   exact stoF_sound hop hd (stoE_ok h (fun e he => ⟨e, he, rfl⟩))
  ·rename_i T x k v hop
   rw [htt] at h
   exact mup_sound hop hd h
  ·rename_i xs ts hop
   split at h
   case h_2 => cases h
   rename_i x k T T2 e1 e2
   rw [htt] at h
   obtain rfl : xs = #[x, k] := by cases xs; simp_all
   obtain rfl : ts = #[T, T2] := by cases ts; simp_all
   exact mdl_sound hop hd h
  ·cases h
 rename_i d hd
 cases hs : slotOk ic.n ic.pin d with
 | false => rw [hs] at h; cases h
 | true =>
 rw [hs] at h
 have hdn := slotOk.ok hic hs
 simp only [cond_true] at h
 split at h
 ·rename_i c x y hop
  split at h
  case h_2 => cases h
  rename_i b hc
  have fin : ∀ av, (b = true → av = opA st.g x) → (b = false → av = opA st.g y) → K ⟨some (d, av), [], [], []⟩ = some r → OK1 E C o st (fun s => ∃ e, K e = some r ∧ s = e.app st) := by
   clear h
   intro av h1 h2 hh
   refine OK1.eval (an := ic.an) hd hdn ?_
   rw [hop]
   simp only [evalF, pickF, hc]
   refine ⟨b, rfl, _, hh, ?_⟩
   cases b
   ·rw [h2 rfl]; rfl
   ·rw [h1 rfl]; rfl
  split at h
  ·rename_i τ u τ' v hu hv
   split at h
   case h_2 => cases h
   rename_i v' hv'
   cases castT_some hv'
   refine fin _ ?_ ?_ h
   ·intro e; rw [hu, e]; rfl
   ·intro e; rw [hv, e]; rfl
  ·cases b
   ·exact fin _ (fun e => by cases e) (fun _ => rfl) h
   ·exact fin _ (fun _ => rfl) (fun e => by cases e) h
 ·rename_i z xs _ hop
  split at h
  case h_2 => cases h
  rename_i f l hz
  split at h
  ·cases h
  rename_i F hF
  cases hb : Nat.beq F.f f with
  | false => rw [hb] at h; cases h
  | true =>
  rw [hb] at h
  obtain rfl := Nat.eq_of_beq_eq_true hb
  simp only [cond_true, getK_eq] at h
  obtain ⟨a, ha, h⟩ := Option.bind_eq_some_iff.1 h
  obtain ⟨b, hsem, h⟩ := Option.bind_eq_some_iff.1 h
  cases hc : callChk d ⟨[], st.h⟩ (xs.toList.map (opA st.g) ++ l) (mkA F.ps a b) (mkR F.rs (outR F.ps b)) with
  | false => rw [hc] at h; cases h
  | true =>
  rw [hc] at h
  obtain ⟨k0, hk0⟩ := lkFit_mem hF
  obtain ⟨hf1, hf2⟩ := htbl.1 _ hk0
  refine OK1.call hop hz hd hdn hf1 (hf2 a b hsem) (by rw [selfAt_mkA]; exact lkFit_noS hF) ?_ hc ⟨_, h, ?_⟩
  ·rw [takenP_eq]
   exact getA_ok ha
  ·rw [Eff.app_cons]; rfl
 ·rename_i xs ts hop
  split at h
  case h_2 => cases h
  rename_i x y T T' e1 e2
  cases hb : Nat.beq T T' with
  | false => rw [hb] at h; cases h
  | true =>
  rw [hb] at h
  obtain rfl := Nat.eq_of_beq_eq_true hb
  have e1' : xs = #[x, y] := by cases xs; simp_all
  have e2' : ts = #[T, T] := by cases ts; simp_all
  subst e1'; subst e2'
  rw [htt] at h
  exact appX_ok hop hd hdn h
 ·rename_i xs ts hop
  split at h
  case h_2 => cases h
  rename_i x y T T' e1 e2
  have e1' : xs = #[x, y] := by cases xs; simp_all
  have e2' : ts = #[T, T'] := by cases ts; simp_all
  subst e1'; subst e2'
  rw [htt] at h
  exact OK1.copy hop hd hdn h
 ·rename_i x hop
  have ev : isVal (opA st.g x) = true → K ⟨some (d, opA st.g x), [], [], []⟩ = some r → OK1 E C o st (fun s => ∃ e, K e = some r ∧ s = e.app st) := fun hv hh => by
   refine OK1.eval (an := ic.an) hd hdn ?_
   rw [hop]
   simp only [evalF, hv, cond_true]
   exact ⟨_, hh, rfl⟩
  have as : (asgE ic.an st.h d (opA st.g x)).bind K = some r → OK1 E C o st (fun s => ∃ e, K e = some r ∧ s = e.app st) := fun hh => by
   obtain ⟨e, he, hh⟩ := Option.bind_eq_some_iff.1 hh
   exact OK1.asg hop hd hdn (asgE_ok he ⟨e, hh, rfl⟩)
  split at h
  ·rename_i τ y ex
   exact ev (by rw [ex]; rfl) (by rw [ex]; exact h)
  ·rename_i f l ex
   exact ev (by rw [ex]; rfl) (by rw [ex]; exact h)
  ·rename_i id p ex
   rintro a w ⟨I, rt, fp, hR⟩ next X hnext
   have hx := hR.opA x
   have hrun : (execOp a.eval o).run E.P w = .ok (.value (a.eval x)) w := by simp [execOp, hop]
   unfold Oper.wp
   rw [hrun]
   show next (a.put o.dst (a.eval x)) w
   rw [hd]
   refine hnext _ _ _ ⟨_, h, rfl⟩ rfl ⟨_, _, _, hR.put hdn ?_⟩
   rw [ex] at hx
   exact hx
  ·rename_i v ex
   split at h
   ·exact ev (by rw [ex]; rfl) (by rw [ex]; exact h)
   ·split at h
    ·rename_i hcv
     simp only [Bool.and_eq_true] at hcv
     obtain ⟨y, hy, h⟩ := Option.bind_eq_some_iff.1 h
     rintro a w ⟨I, rt, fp, hR⟩ next X hnext
     have hx := hR.opA x
     have hrun : (execOp a.eval o).run E.P w = .ok (.value (a.eval x)) w := by simp [execOp, hop]
     unfold Oper.wp
     rw [hrun]
     show next (a.put o.dst (a.eval x)) w
     rw [hd]
     refine hnext _ _ _ ⟨_, h, rfl⟩ rfl ⟨_, _, _, hR.put hdn ?_⟩
     rw [ex] at hx
     generalize a.eval x = v' at hx
     cases hx
     rw [← cvOk.ok hcv.2]
     exact .val (cvC_rep hy)
    ·exact as (by rw [ex]; exact h)
  ·exact as h
 ·rename_i T ps hop
  rw [htt] at h
  exact bldE_ok hop hd hdn h (fun e he => ⟨e, he, rfl⟩)
 ·rename_i T x hop
  rw [htt] at h
  exact boxE_ok hop hd hdn h (fun e he => ⟨e, he, rfl⟩)
 ·rename_i T n ps hop
  rw [htt] at h
  exact bslE_ok hop hd hdn h (fun e he => ⟨e, he, rfl⟩)
 ·split at h
  ·rename_i av hav
   refine OK1.eval (an := ic.an) hd hdn ?_
   rw [← htt]
   exact evalN_ok (by rw [hav]; exact ⟨_, h, rfl⟩)
  ·rename_i α y f hav
   refine OK1.eval (an := ic.an) hd hdn ?_
   rw [← htt]
   obtain ⟨q, hq, h⟩ := Option.bind_eq_some_iff.1 h
   exact evalN_ok (by rw [hav]; exact ⟨q, hq, _, h, rfl⟩)
  ·rename_i α y t e hav
   cases hb : Nat.beq e d with
   | false => rw [hb] at h; cases h
   | true =>
   rw [hb] at h
   obtain rfl := Nat.eq_of_beq_eq_true hb
   obtain ⟨q, hq, h⟩ := Option.bind_eq_some_iff.1 h
   refine OK1.eval (an := ic.an) hd hdn ?_
   rw [← htt]
   exact evalN_ok (by rw [hav]; exact ⟨q, hq, _, h, rfl⟩)
  ·refine OK1.eval (an := ic.an) hd hdn ?_
   rw [htt] at h
   split at h
   ·rename_i av new hav; rw [hav]; exact ⟨_, h, rfl⟩
   ·rename_i α φ f hav
    rw [hav]
    obtain ⟨q, hq, h⟩ := Option.bind_eq_some_iff.1 h
    exact ⟨q, pick_some hq, _, h, rfl⟩
   ·cases h
theorem OK1.mono {o : Oper} {st : St} {P Q : St → Prop} (h : OK1 E C o st P) (hpq : ∀ s, P s → Q s) : OK1 E C o st Q :=
 fun a w hR next X hn => h a w hR next X (fun s a' w' hs => hn s a' w' (hpq s hs))
theorem root_ids {keep : List (Nat × List Step)} {a : AV} (h : isRoot keep a = true) : ∃ id, a.ids = [id] ∧ ∃ x ∈ keep, x.1 = id := by
 have get : ∀ (id : Nat) (P : Nat × List Step → Bool), (keep.any fun x => Nat.beq x.1 id && P x) = true → ∃ x ∈ keep, x.1 = id := by
  intro id P hh
  obtain ⟨x, hx, h2⟩ := List.any_eq_true.1 hh
  simp only [Bool.and_eq_true] at h2
  exact ⟨x, hx, Nat.eq_of_beq_eq_true h2.1⟩
 cases a with
 | ref id p =>
   cases p with
   | nil =>
     obtain ⟨x, hx, h3⟩ := List.any_eq_true.1 (show (keep.any fun x => Nat.beq x.1 id) = true from h)
     exact ⟨id, rfl, x, hx, Nat.eq_of_beq_eq_true h3⟩
   | cons s p => exact ⟨id, rfl, get id _ h⟩
 | addr id p => exact ⟨id, rfl, get id _ h⟩
 | view id p lo hi => exact ⟨id, rfl, get id _ h⟩
 | _ => cases h
theorem uses_app {F S : List Nat} {a : AV} : a.uses (F ++ S) = (a.uses F || a.uses S) := by
 simp only [AV.uses]
 rw [Bool.eq_iff_iff]
 simp only [List.any_eq_true, Bool.or_eq_true]
 constructor
 ·rintro ⟨i, hi, hm⟩
  rcases List.mem_append.1 (memN_iff.1 hm) with h | h
  ·exact .inl ⟨i, hi, memN_iff.2 h⟩
  ·exact .inr ⟨i, hi, memN_iff.2 h⟩
 ·rintro (⟨i, hi, hm⟩ | ⟨i, hi, hm⟩)
  ·exact ⟨i, hi, memN_iff.2 (List.mem_append_left _ (memN_iff.1 hm))⟩
  ·exact ⟨i, hi, memN_iff.2 (List.mem_append_right _ (memN_iff.1 hm))⟩
theorem clo_part {F : List Nat} {f : Nat} {l : List AV} : (AV.clo f l).uses F = l.any fun a => a.uses F := by
 show (AV.idsL l).any _ = _
 induction l with
 | nil => rfl
 | cons a l ih => simp only [AV.idsL, List.any_append, List.any_cons, ih, AV.uses]
theorem kill1q_app {F S : List Nat} {keep : List (Nat × List Step)} {a : AV} : kill1b (F ++ S) keep a = .dead ∨ (a.uses F = false ∧ kill1b (F ++ S) keep a = kill1b S keep a) ∨ (isRoot' (F ++ S) keep a = true ∧ kill1b (F ++ S) keep a = a) := by
 have hu := uses_app (F := F) (S := S) (a := a)
 have hr : a.uses F = false → isRoot' (F ++ S) keep a = isRoot' S keep a := fun hF => by
  cases a with
  | clo f l =>
    rw [clo_part, List.any_eq_false] at hF
    rw [Bool.eq_iff_iff]
    simp only [isRoot', List.all_eq_true]
    constructor <;> intro h b hb <;> have := h b hb <;> rw [uses_app, Bool.eq_false_iff.2 (hF b hb)] at * <;> simpa using this
  | _ => rfl
 unfold kill1b
 rw [hu]
 cases hF : a.uses F with
 | false => right; left; rw [hr hF]; simp
 | true =>
   cases isRoot' (F ++ S) keep a <;> simp
theorem canFrz.ok {h : List (Nat × Tree)} {F : List Nat} (hh : canFrz h F = true) : ∀ id ∈ F, ∃ t, lk h id = some t ∧ frzOkT t.1 = true := by
 intro id hid
 have := List.all_eq_true.1 hh id hid
 split at this
 ·rename_i t ht; exact ⟨t, ht, this⟩
 ·cases this
theorem eF_ok (hic : ic.Ok E C) {o : Oper} {st : St} {K : Eff → Option β} {r : β} (h : eF ic (opA st.g) st.h o K = some r) : OK1 E C o st (fun s => ∃ e, K e = some r ∧ s = e.app st) := by
 unfold eF at h
 split at h
 ·exact e1q_ok hic h
 generalize frzIds ic.fz (frzKey o) (opA st.g) (valOps o.op) = F at h
 cases hc : canFrz st.h F with
 | false => rw [hc] at h; cases h
 | true =>
 rw [hc] at h
 simp only [cond_true] at h
 rw [← frzS_opA F st] at h
 have h1 := e1q_ok (st := frzS F st) hic h
 intro a w hR next X hn
 obtain ⟨I, rt, fp, hR⟩ := hR
 refine h1 a w (hR.freeze (canFrz.ok hc)) next X (fun st' a' w' hst hd hR' => ?_)
 obtain ⟨e, he, rfl⟩ := hst
 cases hk : e.keep.all (fun i => !memN i.1 F) with
 | false => rw [hk] at he; cases he
 | true =>
 rw [hk] at he
 have hk : ∀ i ∈ e.keep, i.1 ∉ F := fun i hi hm => by
  have := List.all_eq_true.1 hk i hi
  rw [memN_iff.2 hm] at this; cases this
 refine hn _ a' w' ⟨_, he, rfl⟩ hd (hR'.less2 ?_ ?_)
 ·intro k
  have keyb : ∀ a : AV, kill1b (F ++ e.S) e.keep a = .dead ∨ kill1b (F ++ e.S) e.keep a = kill1b e.S e.keep (frzAVb st.h F a) := by
   intro a
   rcases kill1q_app (F := F) (S := e.S) (keep := e.keep) (a := a) with h | ⟨h1, h2⟩ | ⟨h1, h2⟩
   ·exact .inl h
   ·right
    rw [h2]
    rcases frzAVb_cases st.h F a with ⟨id, t, rfl, q2, _⟩ | ⟨_, q⟩ | ⟨q, _⟩
    ·simp [AV.uses, AV.ids, memN_iff.2 q2] at h1
    ·rw [h1] at q; cases q
    ·rw [q]
   ·-- what is kept is not given up
    have hnu : ∀ (id : Nat), (∃ x ∈ e.keep, x.1 = id) → memN id F = false := fun id ⟨x, hx, e⟩ => by
     cases hm : memN id F
     ·rfl
     ·exact absurd (e ▸ memN_iff.1 hm) (hk x hx)
    have fin : isRoot' (F ++ e.S) e.keep a = isRoot' e.S e.keep a → ∀ (id : Nat), a.ids = [id] → (∃ x ∈ e.keep, x.1 = id) → kill1b (F ++ e.S) e.keep a = .dead ∨ kill1b (F ++ e.S) e.keep a = kill1b e.S e.keep (frzAVb st.h F a) := by
     intro hcl id hids hx
     have hu : a.uses F = false := by simp [AV.uses, hids, hnu id hx]
     right
     rcases frzAVb_cases st.h F a with ⟨i, t, rfl, q2, _⟩ | ⟨_, q⟩ | ⟨q, _⟩
     ·simp [AV.uses, AV.ids, memN_iff.2 q2] at hu
     ·rw [hu] at q; cases q
     ·rw [q, h2]
      unfold kill1b
      rw [show isRoot' e.S e.keep a = true by rw [← hcl]; exact h1]; simp
    have get : ∀ (id : Nat) (P : Nat × List Step → Bool), (e.keep.any fun x => Nat.beq x.1 id && P x) = true → ∃ x ∈ e.keep, x.1 = id := by
     intro id P hh
     obtain ⟨x, hx, h2⟩ := List.any_eq_true.1 hh
     simp only [Bool.and_eq_true] at h2
     exact ⟨x, hx, Nat.eq_of_beq_eq_true h2.1⟩
    cases a with
    | ref id p =>
      cases p with
      | nil =>
        obtain ⟨x, hx, h3⟩ := List.any_eq_true.1 (show (e.keep.any fun x => Nat.beq x.1 id) = true from h1)
        exact fin rfl id rfl ⟨x, hx, Nat.eq_of_beq_eq_true h3⟩
      | cons s p => exact fin rfl id rfl (get id _ h1)
    | addr id p => exact fin rfl id rfl (get id _ h1)
    | view id p lo hi => exact fin rfl id rfl (get id _ h1)
    | clo f l =>
      have hall := List.all_eq_true.1 h1
      have hu : (AV.clo f l).uses F = false := by
       rw [clo_part, List.any_eq_false]
       intro b hb hbF
       have h3 := hall b hb
       rw [uses_app, hbF] at h3
       obtain ⟨id, e1, hx⟩ := root_ids (keep := e.keep) (a := b) (by simpa using h3)
       rw [AV.uses, e1] at hbF
       simp [hnu id hx] at hbF
      right
      rcases frzAVb_cases st.h F (.clo f l) with ⟨i, t, q1, _⟩ | ⟨_, q⟩ | ⟨q, _⟩
      ·cases q1
      ·rw [hu] at q; cases q
      ·rw [q, h2]
       unfold kill1b
       have h4 : isRoot' e.S e.keep (.clo f l) = true := List.all_eq_true.2 fun b hb => by
        have h3 := hall b hb
        rw [uses_app, Bool.not_or, Bool.or_eq_true, Bool.and_eq_true] at h3
        rw [Bool.or_eq_true]
        exact h3.imp (fun h => h.2) (fun h => h)
       rw [h4]; simp
    | _ => cases h1
  have key : ∀ a : AV, AVle (kill1 (F ++ e.S) e.keep a) (kill1 e.S e.keep (frzAV st.h F a)) := by
   intro a
   cases a with
   | tup l =>
     refine .inr (.inr ⟨_, _, rfl, rfl, by simp, fun i x y h1 h2 => ?_⟩)
     rw [List.getElem?_map] at h1 h2
     rw [List.getElem?_map] at h2
     obtain ⟨x0, h3, rfl⟩ := Option.map_eq_some_iff.1 h1
     rw [h3] at h2
     simp only [Option.map_some, Option.some.injEq] at h2
     subst h2
     exact keyb x0
   | ref id p =>
     have q := keyb (.ref id p)
     have e1 : kill1 e.S e.keep (frzAV st.h F (.ref id p)) = kill1b e.S e.keep (frzAVb st.h F (.ref id p)) := by
      show kill1 e.S e.keep (frzAVb st.h F (.ref id p)) = _
      rcases frzAVb_cases st.h F (.ref id p) with ⟨i, t, _, _, _, h⟩ | ⟨h, _⟩ | ⟨h, _⟩ <;> rw [h] <;> first | rfl | exact frzTop_kill _ _ _
     rw [e1]
     exact q.imp (fun h => h) .inl
   | dead => exact (keyb .dead).imp (fun h => h) .inl
   | val τ x => exact .inr (.inl (by
      simp [kill1b, frzAVb, frzAV, kill1, AV.uses, AV.ids]))
   | cv v => exact .inr (.inl (by
      simp [kill1b, frzAVb, frzAV, kill1, AV.uses, AV.ids]))
   | addr id p =>
     have e1 : kill1 e.S e.keep (frzAV st.h F (.addr id p)) = kill1b e.S e.keep (frzAVb st.h F (.addr id p)) := by
      show kill1 e.S e.keep (frzAVb st.h F (.addr id p)) = _
      rcases frzAVb_cases st.h F (.addr id p) with ⟨i, t, _, _, _, h⟩ | ⟨h, _⟩ | ⟨h, _⟩ <;> rw [h] <;> first | rfl | exact frzTop_kill _ _ _
     rw [e1]; exact (keyb _).imp (fun h => h) .inl
   | view id p lo hi =>
     have e1 : kill1 e.S e.keep (frzAV st.h F (.view id p lo hi)) = kill1b e.S e.keep (frzAVb st.h F (.view id p lo hi)) := by
      show kill1 e.S e.keep (frzAVb st.h F (.view id p lo hi)) = _
      rcases frzAVb_cases st.h F (.view id p lo hi) with ⟨i, t, _, _, _, h⟩ | ⟨h, _⟩ | ⟨h, _⟩ <;> rw [h] <;> first | rfl | exact frzTop_kill _ _ _
     rw [e1]; exact (keyb _).imp (fun h => h) .inl
   | app id p τ ys own =>
     have e1 : kill1 e.S e.keep (frzAV st.h F (.app id p τ ys own)) = kill1b e.S e.keep (frzAVb st.h F (.app id p τ ys own)) := by
      show kill1 e.S e.keep (frzAVb st.h F (.app id p τ ys own)) = _
      rcases frzAVb_cases st.h F (.app id p τ ys own) with ⟨i, t, _, _, _, h⟩ | ⟨h, _⟩ | ⟨h, _⟩ <;> rw [h] <;> first | rfl | exact frzTop_kill _ _ _
     rw [e1]; exact (keyb _).imp (fun h => h) .inl
   | agg l =>
     have e1 : kill1 e.S e.keep (frzAV st.h F (.agg l)) = kill1b e.S e.keep (frzAVb st.h F (.agg l)) := by
      show kill1 e.S e.keep (frzAVb st.h F (.agg l)) = _
      rcases frzAVb_cases st.h F (.agg l) with ⟨i, t, _, _, _, h⟩ | ⟨h, _⟩ | ⟨h, _⟩ <;> rw [h] <;> first | rfl | exact frzTop_kill _ _ _
     rw [e1]; exact (keyb _).imp (fun h => h) .inl
   | clo f l =>
     have e1 : kill1 e.S e.keep (frzAV st.h F (.clo f l)) = kill1b e.S e.keep (frzAVb st.h F (.clo f l)) := by
      show kill1 e.S e.keep (frzAVb st.h F (.clo f l)) = _
      rcases frzAVb_cases st.h F (.clo f l) with ⟨i, t, _, _, _, h⟩ | ⟨h, _⟩ | ⟨h, _⟩ <;> rw [h] <;> first | rfl | exact frzTop_kill _ _ _
     rw [e1]; exact (keyb _).imp (fun h => h) .inl
  show AVle (gt (Eff.app ⟨e.d, F ++ e.S, e.keep, e.put⟩ st).g k) (gt (e.app (frzS F st)).g k)
  obtain ⟨d, S, keep, put⟩ := e
  cases d with
  | none =>
    show AVle (gt (killE (F ++ S) keep st.g) k) (gt (killE S keep (frzS F st).g) k)
    rw [killE_eq, killE_eq, gt_kill, gt_kill, frzS_gt]
    exact key _
  | some q =>
    obtain ⟨d, av⟩ := q
    show AVle (gt ((d, av) :: killE (F ++ S) keep st.g) k) (gt ((d, av) :: killE S keep (frzS F st).g) k)
    rw [gt_cons, gt_cons]
    split
    ·exact .inr (.inl rfl)
    ·rw [killE_eq, killE_eq, gt_kill, gt_kill, frzS_gt]
     exact key _
 ·intro id
  show lk (e.put ++ delE (F ++ e.S) st.h) id = lk (e.put ++ delE e.S (del F st.h)) id
  rw [delE_eq, delE_eq, lk_append, lk_append, lk_del, lk_del, lk_del]
  by_cases h1 : id ∈ F <;> by_cases h2 : id ∈ e.S <;> simp [h1, h2]
theorem eS_ok (hic : ic.Ok E C) {o : Oper} {st : St} {id : Nat} {s : Step} {p : List Step} (hsub : subOf ic (opA st.g) o = some (id, s :: p)) {K : Eff → Option β} {r : β} (h : eS ic id s p (opA st.g) st.h o K = some r) :
  OK1 E C o st (fun s => ∃ e, K e = some r ∧ s = e.app st) := by
 have hsl := fun d => slotOk.ok hic (d := d)
 obtain ⟨htt, _, _, htbl, _⟩ := hic
 unfold eS at h
 split at h
 ·cases h
 rename_i d hd
 cases hs : slotOk ic.n ic.pin d with
 | false => rw [hs] at h; cases h
 | true =>
 rw [hs] at h
 have hdn := hsl d hs
 simp only [cond_true] at h
 split at h
 case h_2 => cases h
 rename_i z xs ts hop
 split at h
 case h_2 => cases h
 rename_i f l hz
 split at h
 ·cases h
 rename_i F hF
 cases hb : Nat.beq F.f f with
 | false => rw [hb] at h; cases h
 | true =>
 rw [hb] at h
 obtain rfl := Nat.eq_of_beq_eq_true hb
 simp only [cond_true] at h
 split at h
 ·cases h
 rename_i t ht
 split at h
 ·cases h
 rename_i τ' hτ
 split at h
 ·cases h
 rename_i y hy
 split at h
 ·cases h
 rename_i a ha
 obtain ⟨b, hsem, h⟩ := Option.bind_eq_some_iff.1 h
 have hsub2 : subAt (xs.toList.map (opA st.g) ++ l) (F.ps.map isM) = some (id, s :: p) := by
  unfold subOf at hsub
  rw [hop] at hsub
  simp only [hz, hF] at hsub
  exact hsub
 generalize hav : spL id (xs.toList.map (opA st.g) ++ l) (F.ps.map isM) = avs at *
 cases hc : callChk d ⟨[], (id, ⟨τ', y⟩) :: del [id] st.h⟩ avs (mkA F.ps a b) (mkR F.rs (outR F.ps b)) with
 | false => rw [hc] at h; cases h
 | true =>
 rw [hc] at h
 cases h1 : memN id (takenIds avs (mkA F.ps a b)) with
 | false => rw [h1] at h; cases h
 | true =>
 rw [h1] at h
 cases h2 : memN id (keptIds avs (mkA F.ps a b)) with
 | false => rw [h2] at h; cases h
 | true =>
 rw [h2] at h
 simp only [Bool.and_self, cond_true] at h
 split at h
 ·cases h
 rename_i t2 ht2
 split at h
 ·cases h
 rename_i y' hy'
 obtain ⟨z', hz', h⟩ := Option.bind_eq_some_iff.1 h
 obtain ⟨k0, hk0⟩ := lkFit_mem hF
 obtain ⟨hf1, hf2⟩ := htbl.1 _ hk0
 refine OK1.sub hop hz hd hdn hf1 (hf2 a b hsem) (by rw [selfAt_mkA]; exact lkFit_noS hF) ht (getF_ok hy) hsub2 hav.symm ?_ hc (memN_iff.1 h1) (memN_iff.1 h2) (y' := y') (z := z') ?_ (setF_ok hz') ⟨_, h, ?_⟩
 ·rw [takenP_eq]; exact getA_ok ha
 ·rw [ht2]; exact congrArg some (castT_some hy')
 ·rw [Eff.app_cons]
theorem i1q_sound (hic : ic.Ok E C) {ops : Array Oper} {i : Nat} {l : List Nat} {o : Oper} {st : St} {K : St → Option β} {r : β} {Q : St → Prop} (ho : ops[i]? = some o) (hw : wantP ops st o true)
  (h : i1 ic st o K = some r) (hK : ∀ s, K s = some r → OJ E C ops l s Q) : OJ E C ops (i :: l) st Q :=
by
 unfold i1 at h
 split at h
 ·rename_i id s p hs
  exact OJ.op ho hw ((eS_ok hic hs h).mono (fun s ⟨e, he, hs⟩ => by subst hs; exact hK _ he))
 ·exact OJ.op ho hw ((eF_ok hic h).mono (fun s ⟨e, he, hs⟩ => by subst hs; exact hK _ he))
theorem iL_sound2 {l2 : List Nat} (hic : ic.Ok E C) {ops : Array Oper} {K : St → Option β} {r : β} {Q : St → Prop} (hK : ∀ s, K s = some r → OJ E C ops l2 s Q) : ∀ {l : List Nat} {st : St}, iL ic ops l st K = some r → OJ E C ops (l ++ l2) st Q
 | [], st, h => hK _ h
 | i :: l, st, h => by
     simp only [iL] at h
     split at h
     ·cases h
     rename_i o ho
     split at h
     ·rename_i hg
      exact i1q_sound hic ho (by unfold wantP; rw [hg]) h (fun s hs => iL_sound2 hic hK hs)
     ·rename_i j want hg
      split at h
      case h_2 => cases h
      rename_i dj d hdj hd
      split at h
      case h_3 => cases h
      case h_2 =>
       rename_i q hx
       cases hs : slotOk ic.n ic.pin d with
       | false => rw [hs] at h; cases h
       | true =>
       rw [hs] at h
       have hdn := slotOk.ok hic hs
       refine OJ.skip ho hd hdn ?_ (iL_sound2 hic hK h)
       unfold wantP
       rw [hg]
       simp only [hdj, hx]
      rename_i x hx
      cases hs : slotOk ic.n ic.pin d with
      | false => rw [hs] at h; cases h
      | true =>
      rw [hs] at h
      have hdn := slotOk.ok hic hs
      simp only [cond_true] at h
      split at h
      ·rename_i hb
       obtain rfl : x = want := by simpa using hb
       have same : ∀ k, gt (⟨(dj, .val .bool x) :: st.g, st.h⟩ : St).g k = gt st.g k := fun k => by
        show gt ((dj, _) :: st.g) k = _
        rw [gt_cons]
        split
        ·rename_i e; rw [← e, hx]
        ·rfl
       refine OJ.same same rfl (i1q_sound hic ho ?_ h (fun s hs => iL_sound2 hic hK hs))
       unfold wantP
       rw [hg]
       simp only [hdj, same dj, hx]
       simp
      ·rename_i hb
       have hxw : x = !want := by cases x <;> cases want <;> first | rfl | cases hb
       have same : ∀ k, gt (⟨(dj, .val .bool (!want)) :: st.g, st.h⟩ : St).g k = gt st.g k := fun k => by
        show gt ((dj, _) :: st.g) k = _
        rw [gt_cons]
        split
        ·rename_i e; rw [← e, hx, hxw]
        ·rfl
       refine OJ.same same rfl (OJ.skip ho hd hdn ?_ (iL_sound2 hic hK h))
       unfold wantP
       rw [hg]
       simp only [hdj, same dj, hx]
       exact hb
theorem iL_sound (hic : ic.Ok E C) {ops : Array Oper} {K : St → Option β} {r : β} {Q : St → Prop} (hK : ∀ s, K s = some r → Q s) {l : List Nat} {st : St} (h : iL ic ops l st K = some r) : OJ E C ops l st Q := by
 have := iL_sound2 (l2 := []) hic (fun s hs => OJ.nil (hK s hs)) h
 rwa [List.append_nil] at this
end
end Go.Fw
end
section
namespace Go.Fw
structure SEq (s t : St) : Prop where
 g : ∀ k, gt s.g k = gt t.g k
 h : ∀ id, lk s.h id = lk t.h id
theorem SEq.refl (s : St) : SEq s s := ⟨fun _ => rfl, fun _ => rfl⟩
theorem SEq.symm {s t : St} (h : SEq s t) : SEq t s := ⟨fun k => (h.g k).symm, fun k => (h.h k).symm⟩
theorem SEq.trans {s t u : St} (h : SEq s t) (k : SEq t u) : SEq s u := ⟨fun i => (h.g i).trans (k.g i), fun i => (h.h i).trans (k.h i)⟩
theorem Eff.app_gt (e : Eff) (s : St) (k : Nat) : gt (e.app s).g k = match e.d with
  | some (d, av) => if d = k then av else kill1 e.S e.keep (gt s.g k)
  | none => kill1 e.S e.keep (gt s.g k) := by
 obtain ⟨d, S, keep, put⟩ := e
 cases d with
 | none =>
   show gt (killE S keep s.g) k = _
   rw [killE_eq, gt_kill]
 | some q =>
   obtain ⟨d, av⟩ := q
   show gt ((d, av) :: killE S keep s.g) k = _
   rw [gt_cons, killE_eq, gt_kill]
theorem Eff.app_lk (e : Eff) (s : St) (id : Nat) : lk (e.app s).h id = (lk e.put id).or (if id ∈ e.S then none else lk s.h id) := by
 show lk (e.put ++ delE e.S s.h) id = _
 rw [delE_eq, lk_append, lk_del]
theorem SEq.app {s t : St} (h : SEq s t) (e : Eff) : SEq (e.app s) (e.app t) :=
 ⟨fun k => by rw [Eff.app_gt, Eff.app_gt, h.g], fun k => by rw [Eff.app_lk, Eff.app_lk, h.h]⟩
theorem Rel.seq {C : Ctx} {s t : St} {tm : Array Value} {w : World} (h : SEq s t) (hr : Rel C s tm w) : Rel C t tm w := hr.less (fun k => .inr (h.g k).symm) (fun id => (h.h id).symm)
def dstOk : Option (Nat × AV) → Option Nat → Bool
 | some q, some d => Nat.beq q.1 d
 | none, none => true
 | _, _ => false
def notDead : AV → Bool
 | .dead => false
 | _ => true
def subB (l r : List Nat) : Bool := l.all fun i => memN i r
theorem subB.ok {l r : List Nat} (h : subB l r = true) : ∀ i ∈ l, i ∈ r := fun i hi => memN_iff.1 (List.all_eq_true.1 h i hi)
def softB (f : List Nat) : AV → Bool
 | .ref id [] => memN (id + 500000) f
 | _ => false
def isMv : Op → Bool
 | .move _ => true
 | _ => false
def killB (mo : List Nat) (keep : List (Nat × List Step)) (S : List Nat) : Bool := S.all fun id => memN id mo && (memN (id + 500000) mo || isRoot keep (.ref id []))
def allAlive : AV → Bool
 | .tup l => l.all notDead
 | a => notDead a
def opOk (op : Op) (ft : List Nat) (a : AV) : Bool := match op with
 | .extract _ i => match a with
   | .tup l => match l[i]? with
     | some c => notDead c && (subB c.ids ft || softB ft c)
     | none => false
   | _ => false
 | op => allAlive a && (subB a.ids ft || (isMv op && softB ft a))
def footOk (ft mo : List Nat) (g : Operand → AV) (o : Oper) (e : Eff) : Bool :=
 dstOk e.d o.dst && (o.op.operands.toList.all fun x => opOk o.op ft (g x)) && killB mo e.keep e.S && (e.put.all fun q => memN q.1 mo) && (match e.d with | some q => subB q.2.ids ft || softB ft q.2 | none => true)
theorem cond_bind {α β : Type} (b : Bool) (x : Option α) (K : α → Option β) : (bif b then x else none).bind K = bif b then x.bind K else none := by cases b <;> rfl
theorem stoE_bind {β : Type} (tt : List (TypeId × Ty)) (h : List (Nat × Tree)) (T : TypeId) (x v : AV) (K : Eff → Option β) : stoE tt h T x v K = (stoE tt h T x v some).bind K := by
 unfold stoE
 split
 ·rfl
 split
 case h_2 => rfl
 split
 ·rfl
 rw [cond_bind]
 congr 1
 split
 ·split
  case h_2 => rfl
  cases Nat.beq _ _
  ·simp only [cond_false, Option.bind_assoc, Option.bind_some]
  ·rfl
 ·split
  case h_2 => rfl
  rw [cond_bind]
  simp only [Option.bind_assoc, Option.bind_some]
 ·split
  ·simp only [Option.bind_assoc, Option.bind_some]
  ·rfl
theorem mupE_bind {β : Type} (tt : List (TypeId × Ty)) (h : List (Nat × Tree)) (T : TypeId) (x k v : AV) (K : Eff → Option β) : mupE tt h T x k v K = (mupE tt h T x k v some).bind K := by
 unfold mupE
 split
 case h_2 => rfl
 split
 case h_2 => rfl
 split
 case h_2 => rfl
 split
 case h_2 => rfl
 rw [cond_bind]
 congr 1
 split
 ·simp only [Option.bind_assoc, Option.bind_some]
 ·rfl
theorem mdlE_bind {β : Type} (tt : List (TypeId × Ty)) (h : List (Nat × Tree)) (T : TypeId) (x k : AV) (K : Eff → Option β) : mdlE tt h T x k K = (mdlE tt h T x k some).bind K := by
 unfold mdlE
 split
 case h_2 => rfl
 split
 case h_2 => rfl
 split
 case h_2 => rfl
 split
 case h_2 => rfl
 rw [cond_bind]
 simp only [Option.bind_assoc, Option.bind_some]
theorem appE_bind {β : Type} (tt : List (TypeId × Ty)) (an : List (Nat × Ty)) (h : List (Nat × Tree)) (d : Nat) (T : TypeId) (x y : AV) (K : Eff → Option β) : appE tt an h d T x y K = (appE tt an h d T x y some).bind K := by
 unfold appE
 split
 ·rfl
 split
 ·split
  case h_2 => rfl
  rw [cond_bind]
  congr 1
  split
  ·simp only [Option.bind_assoc, Option.bind_some]
  ·split
   case h_2 => rfl
   split
   case h_2 => rfl
   split
   case h_2 => rfl
   cases Nat.beq _ _
   ·simp only [cond_false, Option.bind_assoc, Option.bind_some]
   ·rfl
 ·split
  case h_2 => rfl
  split
  case h_2 => rfl
  rw [cond_bind]
  simp only [Option.bind_assoc, Option.bind_some]
 ·split
  case h_2 => rfl
  rw [cond_bind]
  simp only [Option.bind_assoc, Option.bind_some]
 ·split
  case h_2 => rfl
  rw [cond_bind]
  simp only [Option.bind_assoc, Option.bind_some]
 ·rfl
theorem appX_bind {β : Type} (tt : List (TypeId × Ty)) (an : List (Nat × Ty)) (h : List (Nat × Tree)) (d : Nat) (T : TypeId) (x y : AV) (K : Eff → Option β) : appX tt an h d T x y K = (appX tt an h d T x y some).bind K := by
 unfold appX
 split
 ·unfold appP
  split
  case h_2 => rfl
  split
  case h_2 => rfl
  split
  case h_2 => rfl
  rw [cond_bind]
  simp only [Option.bind_assoc, Option.bind_some]
 ·exact appE_bind _ _ _ _ _ _ _ K
theorem cpE_bind {β : Type} (tt : List (TypeId × Ty)) (h : List (Nat × Tree)) (d : Nat) (T : TypeId) (x y : AV) (K : Eff → Option β) : cpE tt h d T x y K = (cpE tt h d T x y some).bind K := by
 unfold cpE
 split
 ·rfl
 split
 ·split
  case h_2 => rfl
  rw [cond_bind]
  simp only [Option.bind_assoc, Option.bind_some]
 ·split
  case h_2 => rfl
  rw [cond_bind]
  simp only [Option.bind_assoc, Option.bind_some]
 ·rfl
theorem bldE_bind {β : Type} (tt : List (TypeId × Ty)) (an : List (Nat × Ty)) (h : List (Nat × Tree)) (g : Operand → AV) (d : Nat) (T : TypeId) (parts : List (Nat × Operand)) (K : Eff → Option β) : bldE tt an h g d T parts K = (bldE tt an h g d T parts some).bind K := by
 unfold bldE
 split
 ·rfl
 split
 ·rw [cond_bind]
  congr 1
  split
  ·rw [cond_bind]; rfl
  ·rfl
 rw [cond_bind]
 congr 1
 split
 ·rfl
 split
 ·rw [cond_bind]; rfl
 ·rfl
theorem boxE_bind {β : Type} (tt : List (TypeId × Ty)) (an : List (Nat × Ty)) (h : List (Nat × Tree)) (d : Nat) (T : TypeId) (x : AV) (K : Eff → Option β) : boxE tt an h d T x K = (boxE tt an h d T x some).bind K := by
 unfold boxE
 split
 ·split
  ·rw [cond_bind]
   congr 1
   split <;> rfl
  ·split
   ·rw [cond_bind]; rfl
   ·rfl
  ·rfl
 ·rfl
theorem bslE_bind {β : Type} (tt : List (TypeId × Ty)) (an : List (Nat × Ty)) (h : List (Nat × Tree)) (g : Operand → AV) (d : Nat) (T : TypeId) (n : Nat) (parts : List (Nat × Operand)) (K : Eff → Option β) : bslE tt an h g d T n parts K = (bslE tt an h g d T n parts some).bind K := by
 unfold bslE
 split
 ·simp only
  rw [cond_bind]
  congr 1
  split
  ·rfl
  ·split
   ·rw [cond_bind]; rfl
   ·rfl
 ·rfl
theorem e1q_bind {ic : IC} {β : Type} (g : Operand → AV) (h : List (Nat × Tree)) (o : Oper) (K : Eff → Option β) : e1 ic g h o K = (e1 ic g h o some).bind K := by
 unfold e1
 split
 ·split
  ·exact stoE_bind _ _ _ _ _ K
  ·exact mupE_bind _ _ _ _ _ _ K
  ·split
   case h_2 => rfl
   exact mdlE_bind _ _ _ _ _ K
  ·rfl
 rw [cond_bind]
 congr 1
 split
 ·split
  case h_2 => rfl
  split
  ·split <;> rfl
  ·split <;> rfl
 ·split
  case h_2 => rfl
  split
  ·rfl
  rw [cond_bind]
  congr 1
  simp only [getK_eq, Option.bind_assoc, cond_bind, Option.bind_some]
 ·split
  case h_2 => rfl
  rw [cond_bind]
  congr 1
  exact appX_bind _ _ _ _ _ _ _ K
 ·split
  case h_2 => rfl
  exact cpE_bind _ _ _ _ _ _ K
 ·split
  ·rfl
  ·rfl
  ·rfl
  ·split
   ·rfl
   ·split
    ·simp only [Option.bind_assoc, Option.bind_some]
    ·simp only [Option.bind_assoc, Option.bind_some]
  ·simp only [Option.bind_assoc, Option.bind_some]
 ·exact bldE_bind _ _ _ _ _ _ _ K
 ·exact boxE_bind _ _ _ _ _ _ K
 ·exact bslE_bind _ _ _ _ _ _ _ _ K
 ·split
  ·rfl
  ·simp only [Option.bind_assoc, Option.bind_some]
  ·rw [cond_bind]; simp only [Option.bind_assoc, Option.bind_some]
  ·split
   ·rfl
   ·simp only [Option.bind_assoc, Option.bind_some]
   ·rfl
theorem eF_bind {ic : IC} {β : Type} (g : Operand → AV) (h : List (Nat × Tree)) (o : Oper) (K : Eff → Option β) : eF ic g h o K = (eF ic g h o some).bind K := by
 unfold eF
 split
 ·exact e1q_bind g h o K
 ·rw [cond_bind]
  congr 1
  refine (e1q_bind _ _ _ _).trans (Eq.trans ?_ (congrArg (fun z => Option.bind z K) (e1q_bind _ _ _ _)).symm)
  simp only [Option.bind_assoc, cond_bind, Option.bind_some]
end Go.Fw
end
section
namespace Go.Fw
theorem mkSt_congr {g g' : Operand → AV} {parts : List (Nat × Operand)} (hg : ∀ q ∈ parts, g q.2 = g' q.2) : ∀ (t : Ty) (n : Nat), mkSt g parts t n = mkSt g' parts t n
 | .pr a b, n => by
    simp only [mkSt, mkSt_congr hg b (n + 1)]
    cases hp : pk parts n with
    | none => rfl
    | some x =>
      have : g x = g' x := hg (n, x) (lk_mem' hp)
      simp only [this]
 | .nil, _ => rfl
 | .int _, _ => rfl
 | .bool, _ => rfl
 | .str, _ => rfl
 | .slc _ _, _ => rfl
 | .ptr _ _, _ => rfl
 | .osl _, _ => rfl
 | .optr _, _ => rfl
 | .st _, _ => rfl
 | .blk, _ => rfl
 | .mp _, _ => rfl
 | .vm _ _, _ => rfl
theorem mkO_congr {h : List (Nat × Tree)} {g g' : Operand → AV} {parts : List (Nat × Operand)} (hg : ∀ q ∈ parts, g q.2 = g' q.2) : ∀ (t : Ty) (n : Nat), mkO h g parts t n = mkO h g' parts t n
 | .pr a b, n => by
    simp only [mkO, mkO_congr hg b (n + 1)]
    cases hp : pk parts n with
    | none => rfl
    | some x =>
      have : g x = g' x := hg (n, x) (lk_mem' hp)
      simp only [this]
 | .nil, _ => rfl
 | .int _, _ => rfl
 | .bool, _ => rfl
 | .str, _ => rfl
 | .slc _ _, _ => rfl
 | .ptr _ _, _ => rfl
 | .osl _, _ => rfl
 | .optr _, _ => rfl
 | .st _, _ => rfl
 | .blk, _ => rfl
 | .mp _, _ => rfl
 | .vm _ _, _ => rfl
section
variable {tt : List (TypeId × Ty)} {an : List (Nat × Ty)} {h h' : List (Nat × Tree)} {d : Nat} {g g' : Operand → AV}
theorem optMap_congr {x : Option Operand} (hg : ∀ y ∈ x.toArray, g y = g' y) : x.map g = x.map g' := by
 cases x with
 | none => rfl
 | some y => simp only [Option.map_some, Option.some.injEq]; exact hg y (by simp)
theorem evalF_congr {op : Op} (hg : ∀ x ∈ op.operands, g x = g' x) : evalF tt an h g d op = evalF tt an h g' d op := by
 cases op
 case build T ps =>
  have : ∀ q ∈ ps.toList, g q.2 = g' q.2 := fun q hq => hg q.2 (by simp only [Op.operands, List.mem_toArray, List.mem_map]; exact ⟨q, hq, rfl⟩)
  simp only [evalF, bldF, mkSt_congr this]
 case buildSlice T n ps =>
  have : ∀ q ∈ ps.toList, g q.2 = g' q.2 := fun q hq => hg q.2 (by simp only [Op.operands, List.mem_toArray, List.mem_map]; exact ⟨q, hq, rfl⟩)
  simp only [evalF, bslF, List.map_congr_left this]
 case slice T x lo hi mx =>
  simp only [Op.operands] at hg
  have h1 : g x = g' x := hg x (by simp)
  have h2 : lo.map g = lo.map g' := optMap_congr (fun y hy => hg y (by simp at hy ⊢; simp [hy]))
  have h3 : hi.map g = hi.map g' := optMap_congr (fun y hy => hg y (by simp at hy ⊢; simp [hy]))
  cases mx
  ·simp only [evalF, h1, h2, h3]
  ·rfl
 case makeMap T r =>
  cases r <;> rfl
 case makeFunc fn fs cs =>
  cases fn <;> try rfl
  have : ∀ x ∈ cs.toList, g x = g' x := fun x hx => hg x (by simp only [Op.operands]; exact Array.mem_append_right _ (by simpa using hx))
  simp only [evalF, List.map_congr_left this]
 case call c =>
  obtain ⟨callee, args, ts⟩ := c
  have hl : ∀ x ∈ args.toList, g x = g' x := fun x hx => hg x (by simp only [Op.operands, Call.operands]; exact Array.mem_append_right _ (by simpa using hx))
  clear hg
  simp only [evalF]
  split
  ·rename_i x T e1 _; rw [e1] at hl; rw [hl x (by simp)]
  ·rename_i x r e1; rw [e1] at hl; rw [hl x (by simp), List.map_congr_left (fun y hy => hl y (by simp [hy]))]
  ·rename_i x r e1; rw [e1] at hl; rw [hl x (by simp), List.map_congr_left (fun y hy => hl y (by simp [hy]))]
  ·rfl
 all_goals (simp only [Op.operands] at hg; simp only [evalF])
 all_goals (first | rfl | (simp_all; done))
theorem evalN_congr {op : Op} (hg : ∀ x ∈ op.operands, g x = g' x) : evalN tt an h g d op = evalN tt an h g' d op := by
 cases op
 case slice T x lo hi mx =>
  simp only [Op.operands] at hg
  have h1 : g x = g' x := hg x (by simp)
  have h2 : lo.map g = lo.map g' := optMap_congr (fun y hy => hg y (by simp at hy ⊢; simp [hy]))
  have h3 : hi.map g = hi.map g' := optMap_congr (fun y hy => hg y (by simp at hy ⊢; simp [hy]))
  cases mx
  ·simp only [evalN, h1, h2, h3]
  ·rfl
 case call c =>
  obtain ⟨callee, args, ts⟩ := c
  have hl : ∀ x ∈ args.toList, g x = g' x := fun x hx => hg x (by simp only [Op.operands, Call.operands]; exact Array.mem_append_right _ (by simpa using hx))
  clear hg
  simp only [evalN]
  split
  ·rename_i x T e1 _; rw [e1] at hl; rw [hl x (by simp)]
  ·rfl
 case unOp o T x =>
  have h1 : g x = g' x := hg x (by simp [Op.operands])
  cases o <;> simp only [evalN, h1]
 all_goals (simp only [Op.operands] at hg; simp only [evalN])
 all_goals (first | rfl | (simp_all; done))
theorem e1q_congr {ic : IC} {β : Type} {o : Oper} {K : Eff → Option β} (hg : ∀ x ∈ o.op.operands, g x = g' x) : e1 ic g h o K = e1 ic g' h o K := by
 have hN := fun (d : Nat) => evalN_congr (tt := ic.tt) (an := ic.an) (h := h) (d := d) hg
 have hF := fun (d : Nat) => evalF_congr (tt := ic.tt) (an := ic.an) (h := h) (d := d) hg
 unfold e1
 cases hd : o.dst with
 | none =>
   simp only
   split
   ·rename_i T x v hop
    rw [hop] at hg
    rw [hg x (by simp [Op.operands]), hg v (by simp [Op.operands])]
   ·rename_i T x k v hop
    rw [hop] at hg
    rw [hg x (by simp [Op.operands]), hg k (by simp [Op.operands]), hg v (by simp [Op.operands])]
   ·rename_i xs ts hop
    rw [hop] at hg
    split
    ·rename_i x y T T' e1 _
     have hx : ∀ z ∈ xs.toList, g z = g' z := fun z hz => hg z (by simp only [Op.operands, Call.operands]; exact Array.mem_append_right _ (by simpa using hz))
     rw [e1] at hx
     rw [hx x (by simp), hx y (by simp)]
    ·rfl
   ·rfl
 | some d =>
   simp only
   congr 1
   split
   ·rename_i c x y hop
    rw [hop] at hg
    rw [hg c (by simp [Op.operands]), hg x (by simp [Op.operands]), hg y (by simp [Op.operands])]
   ·rename_i z xs _ hop
    rw [hop] at hg
    have : xs.toList.map g = xs.toList.map g' := List.map_congr_left fun x hx => hg x (by simp only [Op.operands, Call.operands]; exact Array.mem_append_right _ (by simpa using hx))
    have hz : g z = g' z := hg z (by simp [Op.operands, Call.operands])
    rw [this, hz]
   ·rename_i xs ts hop
    rw [hop] at hg
    split
    ·rename_i x y T T' e1 _
     have hx : ∀ z ∈ xs.toList, g z = g' z := fun z hz => hg z (by simp only [Op.operands, Call.operands]; exact Array.mem_append_right _ (by simpa using hz))
     rw [e1] at hx
     rw [hx x (by simp), hx y (by simp)]
    ·rfl
   ·rename_i xs ts hop
    rw [hop] at hg
    split
    ·rename_i x y T T' e1 _
     have hx : ∀ z ∈ xs.toList, g z = g' z := fun z hz => hg z (by simp only [Op.operands, Call.operands]; exact Array.mem_append_right _ (by simpa using hz))
     rw [e1] at hx
     rw [hx x (by simp), hx y (by simp)]
    ·rfl
   ·rename_i x hop
    rw [hop] at hg
    rw [hg x (by simp [Op.operands])]
   ·rename_i T ps hop
    rw [hop] at hg
    have hp : ∀ q ∈ ps.toList, g q.2 = g' q.2 := fun q hq => hg q.2 (by simp only [Op.operands, List.mem_toArray, List.mem_map]; exact ⟨q, hq, rfl⟩)
    simp only [bldE, mkSt_congr hp, mkO_congr hp]
   ·rename_i T x hop
    rw [hop] at hg
    rw [hg x (by simp [Op.operands])]
   ·rename_i T n ps hop
    rw [hop] at hg
    have hp : ∀ q ∈ ps.toList, g q.2 = g' q.2 := fun q hq => hg q.2 (by simp only [Op.operands, List.mem_toArray, List.mem_map]; exact ⟨q, hq, rfl⟩)
    simp only [bslE, List.map_congr_left hp]
   ·rw [hN, hF]
def LkOn (h h' : List (Nat × Tree)) (a : AV) : Prop := ∀ id ∈ a.ids, lk h id = lk h' id
theorem placeOf_loc {x : AV} (hx : LkOn h h' x) : placeOf h x = placeOf h' x := by
 cases x with
 | ref id p => simp only [placeOf, hx id (by simp [AV.ids])]
 | _ => rfl
theorem placeOf_ids {x : AV} {id : Nat} {p : List Step} (hp : placeOf h x = some (id, p)) : id ∈ x.ids := by
 unfold placeOf at hp
 split at hp
 ·cases hp; simp [AV.ids]
 ·split at hp
  ·split at hp
   ·cases hp; simp [AV.ids]
   ·cases hp
  ·cases hp
 ·cases hp
theorem stoE_loc {T : TypeId} {x v : AV} {β : Type} {K : Eff → Option β} (hx : LkOn h h' x) (hv : LkOn h h' v) : stoE tt h T x v K = stoE tt h' T x v K := by
 unfold stoE
 rw [← placeOf_loc hx]
 split
 ·rfl
 ·rename_i id p hp
  rw [hx id (placeOf_ids hp)]
  cases v with
  | ref id2 p2 => simp only [hv id2 (by simp [AV.ids])]
  | _ => rfl
theorem ysN_loc {σ : Ty} {y : AV} (hy : LkOn h h' y) : ysN h σ y = ysN h' σ y := by
 cases y with
 | ref id p => simp only [ysN, hy id (by simp [AV.ids])]
 | view id p lo hi => simp only [ysN, hy id (by simp [AV.ids])]
 | val τ z => cases τ <;> rfl
 | cv v => unfold ysN; split <;> first | rfl | (split <;> first | rfl | simp_all)
 | _ => rfl
theorem appE_loc {T : TypeId} {x y : AV} {β : Type} {K : Eff → Option β} (hx : LkOn h h' x) (hy : LkOn h h' y) (hd : lk h d = lk h' d) : appE tt an h d T x y K = appE tt an h' d T x y K := by
 unfold appE
 split
 ·rfl
 ·have hys : ∀ σ : Ty, ysN h σ y = ysN h' σ y := fun σ => ysN_loc hy
  cases x with
  | ref id p =>
    cases p with
    | nil =>
      simp only [hx id (by simp [AV.ids]), hys]
      cases y with
      | ref id2 p2 =>
        cases p2 with
        | nil => simp only [hy id2 (by simp [AV.ids])]
        | cons s p2 => rfl
      | _ => rfl
    | cons s p => simp only [hx id (by simp [AV.ids]), hys, hd]
  | view id p lo hi =>
    cases p with
    | nil => simp only [hx id (by simp [AV.ids]), hys]
    | cons s p => rfl
  | cv v => simp only [hys]; split <;> first | rfl | (split <;> first | rfl | simp_all)
  | _ => rfl
theorem ownY_loc {x y : AV} (hy : LkOn h h' y) : ownY h x y = ownY h' x y := by
 unfold ownY
 cases x with
 | ref id p =>
   cases p with
   | nil => rfl
   | cons s p =>
     cases y with
     | ref id2 p2 =>
       cases p2 with
       | nil => simp only [hy id2 (by simp [AV.ids])]
       | cons s2 p2 => rfl
     | _ => rfl
 | _ => rfl
theorem appX_loc {T : TypeId} {x y : AV} {β : Type} {K : Eff → Option β} (hx : LkOn h h' x) (hy : LkOn h h' y) (hd : lk h d = lk h' d) : appX tt an h d T x y K = appX tt an h' d T x y K := by
 unfold appX
 rw [ownY_loc hy, appE_loc hx hy hd]
 split
 ·rename_i id p id2 t hh
  obtain ⟨rfl, _, _⟩ := ownY_some hh
  unfold appP
  rw [hx id (by simp [AV.ids]), hd]
 ·rfl
theorem cpE_loc {T : TypeId} {x y : AV} {β : Type} {K : Eff → Option β} (hx : LkOn h h' x) (hy : LkOn h h' y) : cpE tt h d T x y K = cpE tt h' d T x y K := by
 unfold cpE
 split
 ·rfl
 ·have hys : ∀ σ : Ty, ysN h σ y = ysN h' σ y := fun σ => ysN_loc hy
  cases x with
  | ref id p =>
    cases p with
    | nil => simp only [hx id (by simp [AV.ids]), hys]
    | cons s p => rfl
  | view id p lo hi =>
    cases p with
    | nil => simp only [hx id (by simp [AV.ids]), hys]
    | cons s p => rfl
  | _ => rfl
theorem asgE_loc {v : AV} (hv : LkOn h h' v) : asgE an h d v = asgE an h' d v := by
 cases v with
 | ref id p =>
   cases p with
   | nil => simp only [asgE, hv id (by simp [AV.ids])]
   | cons s p => rfl
 | view id p lo hi =>
   cases p with
   | nil => simp only [asgE, hv id (by simp [AV.ids])]
   | cons s p => rfl
 | cv v => unfold asgE; split <;> first | rfl | (split <;> first | rfl | simp_all)
 | _ => rfl
theorem partO_loc {a : Ty} {v : AV} (hv : LkOn h h' v) : partO h a v = partO h' a v := by
 cases v with
 | ref id p =>
   cases p with
   | nil => simp only [partO, hv id (by simp [AV.ids])]
   | cons s p => rfl
 | _ => rfl
theorem mkO_loc {parts : List (Nat × Operand)} (hg : ∀ q ∈ parts, LkOn h h' (g q.2)) : ∀ (t : Ty) (n : Nat), mkO h g parts t n = mkO h' g parts t n
 | .pr a b, n => by
    simp only [mkO, mkO_loc hg b (n + 1)]
    cases hp : pk parts n with
    | none => rfl
    | some x => simp only [partO_loc (hg (n, x) (lk_mem' hp))]
 | .nil, _ => rfl
 | .int _, _ => rfl
 | .bool, _ => rfl
 | .str, _ => rfl
 | .slc _ _, _ => rfl
 | .ptr _ _, _ => rfl
 | .osl _, _ => rfl
 | .optr _, _ => rfl
 | .st _, _ => rfl
 | .blk, _ => rfl
 | .mp _, _ => rfl
 | .vm _ _, _ => rfl
theorem coeO_loc {t : Ty} {v : AV} (hv : LkOn h h' v) : coeO h t v = coeO h' t v := by
 cases v with
 | ref id p =>
   cases p with
   | nil => simp only [coeO, hv id (by simp [AV.ids])]
   | cons s p => rfl
 | _ => rfl
theorem coesO_loc {t : Ty} : ∀ {l : List AV}, (∀ a ∈ l, LkOn h h' a) → coesO h t l = coesO h' t l
 | [], _ => rfl
 | x :: r, hl => by simp only [coesO, coeO_loc (hl x (by simp)), coesO_loc (l := r) (fun a ha => hl a (by simp [ha]))]
theorem argV_loc {S : List Nat} {τ : Ty} {v : AV} (hv : LkOn h h' v) : argV h S v τ = argV h' S v τ := by
 cases v with
 | ref id p => simp only [argV, hv id (by simp [AV.ids])]
 | _ => rfl
theorem AV.mem_idsL' {f : Nat} {l : List AV} {a : AV} {id : Nat} (ha : a ∈ l) (hid : id ∈ a.ids) : id ∈ (AV.clo f l).ids := by
 obtain ⟨i, hi, rfl⟩ := List.mem_iff_getElem.1 ha
 exact AV.mem_idsL (l := l) (i := i) (List.getElem?_eq_getElem hi) hid
theorem getV_loc {S : List Nat} : ∀ {τs : List Ty} {avs : List AV}, (∀ a ∈ avs, LkOn h h' a) → getV h S τs avs = getV h' S τs avs
 | [], [], _ => rfl
 | [], _ :: _, _ => rfl
 | _ :: _, [], _ => rfl
 | τ :: l, av :: as, hl => by simp only [getV, argV_loc (hl av (by simp)), getV_loc (τs := l) (avs := as) (fun a ha => hl a (by simp [ha]))]
theorem getA_loc {S : List Nat} : ∀ {ps : List PM} {avs : List AV}, (∀ a ∈ avs, LkOn h h' a) → getA h S ps avs = getA h' S ps avs
 | [], [], _ => rfl
 | [], _ :: _, _ => rfl
 | p :: l, [], _ => by cases p <;> rfl
 | .v τ :: l, av :: as, hl => by simp only [getA, argV_loc (hl av (by simp)), getA_loc (ps := l) (avs := as) (fun a ha => hl a (by simp [ha]))]
 | .c n τs :: l, av :: as, hl => by
    have ih := getA_loc (S := S) (ps := l) (avs := as) (fun a ha => hl a (by simp [ha]))
    cases av with
    | clo m q =>
      have : getV h S τs q = getV h' S τs q := getV_loc (fun a ha id hid => hl (.clo m q) (by simp) id (AV.mem_idsL' ha hid))
      simp only [getA, this, ih]
    | _ => rfl
 | .m τ :: l, av :: as, hl => by
    have ih := getA_loc (S := S) (ps := l) (avs := as) (fun a ha => hl a (by simp [ha]))
    cases av with
    | ref id p =>
      cases p with
      | nil => simp only [getA, hl (.ref id []) (by simp) id (by simp [AV.ids]), ih]
      | cons s p => rfl
    | _ => rfl
 | .o τ :: l, av :: as, hl => by
    have ih := getA_loc (S := S) (ps := l) (avs := as) (fun a ha => hl a (by simp [ha]))
    cases av with
    | ref id p =>
      cases p with
      | nil => simp only [getA, hl (.ref id []) (by simp) id (by simp [AV.ids]), ih]
      | cons s p => rfl
    | cv v => simp only [getA, ih]
    | _ => rfl
 | .n :: l, av :: as, hl => by
    have ih := getA_loc (S := S) (ps := l) (avs := as) (fun a ha => hl a (by simp [ha]))
    cases av with
    | cv v => simp only [getA, ih]
    | _ => rfl
 | .s f q :: l, av :: as, hl => by
    have ih := getA_loc (S := S) (ps := l) (avs := as) (fun a ha => hl a (by simp [ha]))
    cases av with
    | ref id p => cases p <;> simp only [getA, ih]
    | _ => simp only [getA, ih]
theorem lenF_loc {T : TypeId} {x : AV} (hx : LkOn h h' x) : lenF tt h T x = lenF tt h' T x := by
 unfold lenF
 cases x with
 | ref id p => simp only [hx id (by simp [AV.ids])]
 | app id p τ ys own => simp only [hx id (by simp [AV.ids])]
 | val τ z => cases isSlcT tt T with | none => rfl | some u => cases τ <;> rfl
 | cv v => cases isSlcT tt T with | none => rfl | some u => simp only; split <;> first | rfl | (split <;> first | rfl | simp_all)
 | _ => rfl
theorem mlnF_loc {T : TypeId} {x : AV} (hx : LkOn h h' x) : mlnF tt h T x = mlnF tt h' T x := by
 unfold mlnF
 cases x with
 | ref id p => simp only [hx id (by simp [AV.ids])]
 | val τ z => cases isMapT tt T with | none => rfl | some u => cases τ <;> rfl
 | _ => rfl
theorem lookF_loc {T : TypeId} {x k : AV} {ok : Bool} (hx : LkOn h h' x) : lookF tt h T x k ok = lookF tt h' T x k ok := by
 unfold lookF
 cases x with
 | ref id p => simp only [hx id (by simp [AV.ids])]
 | val τ z => split <;> first | rfl | (cases τ <;> rfl)
 | _ => split <;> rfl
theorem mkmF_loc {T : TypeId} (hd : lk h d = lk h' d) : mkmF tt an h d T = mkmF tt an h' d T := by
 unfold mkmF; rw [hd]
theorem mupE_loc {β : Type} {K : Eff → Option β} {T : TypeId} {x k v : AV} (hx : LkOn h h' x) : mupE tt h T x k v K = mupE tt h' T x k v K := by
 unfold mupE
 cases x with
 | ref id p => simp only [hx id (by simp [AV.ids])]
 | _ => rfl
theorem mdlE_loc {β : Type} {K : Eff → Option β} {T : TypeId} {x k : AV} (hx : LkOn h h' x) : mdlE tt h T x k K = mdlE tt h' T x k K := by
 unfold mdlE
 cases x with
 | ref id p => simp only [hx id (by simp [AV.ids])]
 | _ => rfl
theorem idxF_loc {T : TypeId} {x i : AV} (hx : LkOn h h' x) : idxF tt h T x i = idxF tt h' T x i := by
 unfold idxF
 cases x with
 | ref id p => simp only [hx id (by simp [AV.ids])]
 | view id p lo hi => simp only [hx id (by simp [AV.ids])]
 | val τ z => cases τ <;> rfl
 | cv v => rfl
 | _ => rfl
theorem loadF_loc {T : TypeId} {x : AV} (hx : LkOn h h' x) : loadF tt h T x = loadF tt h' T x := by
 unfold loadF
 cases x with
 | ref id p => simp only [hx id (by simp [AV.ids])]
 | addr id p => simp only [hx id (by simp [AV.ids])]
 | val τ z => cases τ <;> first | rfl | (cases z <;> rfl)
 | cv v => rfl
 | _ => rfl
theorem fldAF_loc {T : TypeId} {x : AV} {n : Nat} (hx : LkOn h h' x) : fldAF tt h T x n = fldAF tt h' T x n := by
 unfold fldAF
 cases x with
 | ref id p => simp only [hx id (by simp [AV.ids])]
 | addr id p => simp only [hx id (by simp [AV.ids])]
 | val τ z => cases τ <;> first | rfl | (rename_i m t; cases z <;> first | rfl | (cases t <;> rfl))
 | cv v => rfl
 | _ => rfl
theorem fldF_loc {T : TypeId} {x : AV} {n : Nat} (hx : LkOn h h' x) : Fw.fldF tt h T x n = Fw.fldF tt h' T x n := by
 unfold Fw.fldF
 cases x with
 | ref id p => simp only [hx id (by simp [AV.ids])]
 | val τ z => cases τ <;> rfl
 | cv v => rfl
 | _ => rfl
theorem nilF_loc {x : AV} (hx : LkOn h h' x) : nilF h x = nilF h' x := by
 unfold nilF
 cases x with
 | ref id p => simp only [hx id (by simp [AV.ids])]
 | val τ z => cases τ <;> rfl
 | cv v => rfl
 | _ => rfl
theorem slcF_loc {T : TypeId} {x : AV} {lo hi : Option AV} (hx : LkOn h h' x) : slcF tt h T x lo hi = slcF tt h' T x lo hi := by
 unfold slcF
 cases x with
 | ref id p => simp only [hx id (by simp [AV.ids])]
 | val τ z => cases τ <;> rfl
 | cv v => rfl
 | _ => rfl
theorem makeF_loc {T : TypeId} {l c : AV} (hd : lk h d = lk h' d) : makeF tt an h d T l c = makeF tt an h' d T l c := by
 unfold makeF; rw [hd]
theorem allocF_loc {T : TypeId} (hd : lk h d = lk h' d) : allocF tt an h d T = allocF tt an h' d T := by
 unfold allocF; rw [hd]
theorem evalF_loc {op : Op} (hg : ∀ x ∈ op.operands, LkOn h h' (g x)) (hd : lk h d = lk h' d) : evalF tt an h g d op = evalF tt an h' g d op := by
 cases op
 case box T x => simp only [evalF, boxF]; rw [hd]
 case buildSlice T n ps => simp only [evalF, bslF]; rw [hd]
 case alloc T => exact allocF_loc hd
 case makeSlice T l c => exact makeF_loc hd
 case makeMap T r =>
  cases r
  ·exact mkmF_loc hd
  ·rfl
 case lookup T x k ok => exact lookF_loc (hg x (by simp [Op.operands]))
 case load T x => exact loadF_loc (hg x (by simp [Op.operands]))
 case nilCheck x => exact nilF_loc (hg x (by simp [Op.operands]))
 case indexAddr T x i => exact idxF_loc (hg x (by simp [Op.operands]))
 case fieldAddr T x n => exact fldAF_loc (hg x (by simp [Op.operands]))
 case field T x n => exact fldF_loc (hg x (by simp [Op.operands]))
 case slice T x lo hi mx =>
  cases mx
  ·exact slcF_loc (hg x (by simp [Op.operands]))
  ·rfl
 case call c =>
  obtain ⟨callee, args, ts⟩ := c
  have hl : ∀ x ∈ args.toList, LkOn h h' (g x) := fun x hx => hg x (by simp only [Op.operands, Call.operands]; exact Array.mem_append_right _ (by simpa using hx))
  clear hg
  simp only [evalF]
  split
  ·rename_i x T e1 _; rw [e1] at hl; split; exact lenF_loc (hl x (by simp)); exact mlnF_loc (hl x (by simp))
  ·rfl
  ·rfl
  ·rfl
 case makeFunc fn fs cs => cases fn <;> rfl
 all_goals rfl
theorem evalN_loc {op : Op} (hg : ∀ x ∈ op.operands, LkOn h h' (g x)) (hd : lk h d = lk h' d) : evalN tt an h g d op = evalN tt an h' g d op := by
 cases op
 case lookup T x k ok =>
  have hx := hg x (by simp [Op.operands])
  simp only [evalN]
  split
  ·rename_i u id p n e1 e2 e3
   rw [e2] at hx
   rw [hx id (by simp [AV.ids])]
  ·rfl
 case makeSlice T l c => simp only [evalN, hd]
 case unOp o T x => cases o <;> rfl
 case indexAddr T x i =>
  have hx := hg x (by simp [Op.operands])
  simp only [evalN]
  revert hx
  cases g x with
  | ref id p => intro hx; simp only [hx id (by simp [AV.ids])]
  | val τ z => intro _; cases τ <;> rfl
  | _ => intro _; rfl
 case load T x =>
  have hx := hg x (by simp [Op.operands])
  simp only [evalN]
  revert hx
  cases g x with
  | ref id p => intro hx; simp only [hx id (by simp [AV.ids])]
  | addr id p => intro hx; simp only [hx id (by simp [AV.ids])]
  | val τ z => intro _; cases τ <;> rfl
  | _ => intro _; rfl
 case slice T x lo hi mx =>
  have hx := hg x (by simp [Op.operands])
  cases mx
  ·simp only [evalN]
   revert hx
   cases g x with
   | ref id p => intro hx; simp only [hx id (by simp [AV.ids])]
   | val τ z => intro _; cases τ <;> rfl
   | _ => intro _; rfl
  ·rfl
 case call c =>
  obtain ⟨callee, args, ts⟩ := c
  have hl : ∀ x ∈ args.toList, LkOn h h' (g x) := fun x hx => hg x (by simp only [Op.operands, Call.operands]; exact Array.mem_append_right _ (by simpa using hx))
  clear hg
  simp only [evalN]
  split
  ·rename_i x T e1 _
   rw [e1] at hl
   have hx := hl x (by simp)
   cases isSlcT tt T with
   | none =>
     revert hx
     cases g x with
     | ref id p => intro hx; simp only; rw [hx id (by simp [AV.ids])]
     | _ => intro _; rfl
   | some u =>
     revert hx
     cases g x with
     | ref id p => intro hx; simp only; rw [hx id (by simp [AV.ids])]
     | _ => intro _; rfl
  ·rfl
 all_goals rfl
theorem mem_operands_args {callee : Callee} {args : Array Operand} {ts : Array TypeId} {x : Operand} (hx : x ∈ args.toList) : x ∈ (Op.call { callee := callee, args := args, argTypes := ts }).operands := by
 simp only [Op.operands, Call.operands]; exact Array.mem_append_right _ (by simpa using hx)
theorem e1q_loc {ic : IC} {o : Oper} {e : Eff} (he : e1 ic g h o some = some e) (hg : ∀ x ∈ o.op.operands, LkOn h h' (g x)) (hd : ∀ d, o.dst = some d → lk h d = lk h' d) (hp : ∀ q ∈ e.put, lk h q.1 = lk h' q.1) : e1 ic g h' o some = some e := by
 unfold e1 at he ⊢
 cases hdst : o.dst with
 | none =>
   rw [hdst] at he
   simp only at he ⊢
   split at he
   ·rename_i T x v hop
    rw [hop] at hg
    rw [← stoE_loc (hg x (by simp [Op.operands])) (hg v (by simp [Op.operands]))]; exact he
   ·rename_i T x k v hop
    rw [hop] at hg
    rw [← mupE_loc (hg x (by simp [Op.operands]))]; exact he
   ·rename_i xs ts hop
    rw [hop] at hg
    split at he
    case h_2 => cases he
    rename_i x k T T' e1 e2
    have hl : ∀ z ∈ xs.toList, LkOn h h' (g z) := fun z hz => hg z (mem_operands_args hz)
    rw [e1] at hl
    rw [← mdlE_loc (hl x (by simp))]
    exact he
   ·cases he
 | some d =>
   rw [hdst] at he
   have hd := hd d hdst
   simp only at he ⊢
   cases hs : slotOk ic.n ic.pin d with
   | false => rw [hs] at he; cases he
   | true =>
   rw [hs] at he
   simp only [cond_true] at he ⊢
   split at he
   ·rename_i c x y hop
    exact he
   ·rename_i z xs _ hop
    rw [hop] at hg
    split at he
    case h_2 => cases he
    rename_i f l hz
    try rw [hz]
    try simp only
    have hl : ∀ a ∈ xs.toList.map g ++ l, LkOn h h' a := fun a ha => by
     rcases List.mem_append.1 ha with ha | ha
     ·obtain ⟨x, hx, rfl⟩ := List.mem_map.1 ha
      exact hg x (mem_operands_args hx)
     ·intro id hid
      exact hg z (by simp [Op.operands, Call.operands]) id (by rw [hz]; exact AV.mem_idsL' ha hid)
    split at he
    ·cases he
    rename_i F hF
    cases hb : Nat.beq F.f f with
    | false => rw [hb] at he; cases he
    | true =>
    rw [hb] at he
    simp only [cond_true, getK_eq] at he ⊢
    rw [← getA_loc hl]
    obtain ⟨a, ha, he⟩ := Option.bind_eq_some_iff.1 he
    obtain ⟨b, hsem, he⟩ := Option.bind_eq_some_iff.1 he
    simp only [ha, hsem, Option.bind_some]
    cases hc : callChk d ⟨[], h⟩ (xs.toList.map g ++ l) (mkA F.ps a b) (mkR F.rs (outR F.ps b)) with
    | false => rw [hc] at he; cases he
    | true =>
    rw [hc] at he
    have hc' : callChk d ⟨[], h'⟩ (xs.toList.map g ++ l) (mkA F.ps a b) (mkR F.rs (outR F.ps b)) = true := by
     rw [← hc]
     unfold callChk
     congr 1
     rw [Bool.eq_iff_iff, List.all_eq_true, List.all_eq_true]
     cases he
     have hq : ∀ q ∈ resTrees d (isSingle (mkR F.rs (outR F.ps b))) 0 (mkR F.rs (outR F.ps b)), lk h q.1 = lk h' q.1 := fun q hq => hp q (by simp only [List.mem_append]; exact .inr hq)
     exact ⟨fun hh q hq' => by rw [show lk (St.mk [] h).h q.1 = lk h q.1 from rfl, hq q hq']; exact hh q hq', fun hh q hq' => by rw [show lk (St.mk [] h').h q.1 = lk h' q.1 from rfl, ← hq q hq']; exact hh q hq'⟩
    rw [hc']
    exact he
   ·rename_i xs ts hop
    rw [hop] at hg
    split at he
    case h_2 => cases he
    rename_i x y T T' e1 e2
    have hl : ∀ z ∈ xs.toList, LkOn h h' (g z) := fun z hz => hg z (mem_operands_args hz)
    rw [e1] at hl
    rw [← appX_loc (hl x (by simp)) (hl y (by simp)) hd]
    exact he
   ·rename_i xs ts hop
    rw [hop] at hg
    split at he
    case h_2 => cases he
    rename_i x y T T' e1 e2
    have hl : ∀ z ∈ xs.toList, LkOn h h' (g z) := fun z hz => hg z (mem_operands_args hz)
    rw [e1] at hl
    rw [← cpE_loc (hl x (by simp)) (hl y (by simp))]
    exact he
   ·rename_i x hop
    rw [hop] at hg
    have hx := hg x (by simp [Op.operands])
    revert he hx
    cases g x with
    | val τ y => intro he _; exact he
    | cv v => intro he hx; simp only [← asgE_loc hx]; exact he
    | ref id p => intro he hx; simp only [← asgE_loc hx]; exact he
    | view id p lo hi => intro he hx; simp only [← asgE_loc hx]; exact he
    | _ => intro he _; exact he
   ·rename_i T ps hop
    rw [hop] at hg
    have hp : ∀ q ∈ ps.toList, LkOn h h' (g q.2) := fun q hq => hg q.2 (by simp only [Op.operands, List.mem_toArray, List.mem_map]; exact ⟨q, hq, rfl⟩)
    rw [← he]
    simp only [bldE, mkO_loc hp, hd]
   ·rename_i T x hop
    rw [hop] at hg
    have hx := hg x (by simp [Op.operands])
    rw [← he]
    simp only [boxE, hd]
    revert hx
    cases g x with
    | ref id p =>
      intro hx
      cases p with
      | nil => simp only [hx id (by simp [AV.ids])]
      | cons s p => rfl
    | _ => intro _; rfl
   ·rename_i T n ps hop
    rw [hop] at hg
    have hp : ∀ a ∈ ps.toList.map (fun q => g q.2), LkOn h h' a := fun a ha => by
     obtain ⟨q, hq, rfl⟩ := List.mem_map.1 ha
     exact hg q.2 (by simp only [Op.operands, List.mem_toArray, List.mem_map]; exact ⟨q, hq, rfl⟩)
    rw [← he]
    simp only [bslE, coesO_loc hp, hd]
   ·rw [evalN_loc hg hd, evalF_loc hg hd] at he
    exact he
end
theorem valOps_sub {op : Op} : ∀ x ∈ valOps op, x ∈ op.operands := by
 intro x hx
 cases op <;> simp only [valOps] at hx <;> first | (cases hx; done) | skip
 case assign y => simpa [Op.operands] using hx
 case box T y => simpa [Op.operands] using hx
 case build T ps => simpa [Op.operands] using hx
 case buildSlice T n ps => simpa [Op.operands] using hx
 case store T a v => simp at hx; simp [Op.operands, hx]
 case mapUpdate T a k v => simp at hx; simp [Op.operands, hx]
 case call c =>
  obtain ⟨callee, args, ts⟩ := c
  simp only at hx
  split at hx
  ·exact mem_operands_args hx
  ·exact mem_operands_args (List.mem_of_mem_drop hx)
  ·cases hx
theorem frzIds_mem {fz : List (Nat × Nat)} {k : Nat} {g : Operand → AV} : ∀ {l : List Operand}, ∀ id ∈ frzIds fz k g l, ∃ x ∈ l, g x = .ref id []
 | [], id, h => by cases h
 | x :: l, id, h => by
     simp only [frzIds] at h
     split at h
     ·rename_i i hx
      rw [Bool.cond_eq_ite] at h
      split at h
      ·rcases List.mem_cons.1 h with rfl | h
       ·exact ⟨x, by simp, hx⟩
       ·obtain ⟨y, hy, e⟩ := frzIds_mem id h; exact ⟨y, by simp [hy], e⟩
      ·obtain ⟨y, hy, e⟩ := frzIds_mem id h; exact ⟨y, by simp [hy], e⟩
     ·obtain ⟨y, hy, e⟩ := frzIds_mem id h; exact ⟨y, by simp [hy], e⟩
theorem frzIds_congr {fz : List (Nat × Nat)} {k : Nat} {g g' : Operand → AV} : ∀ {l : List Operand}, (∀ x ∈ l, g x = g' x) → frzIds fz k g l = frzIds fz k g' l
 | [], _ => rfl
 | x :: l, hg => by simp only [frzIds, hg x (by simp), frzIds_congr (l := l) (fun y hy => hg y (by simp [hy]))]
theorem frzAVb_loc {h h' : List (Nat × Tree)} {F : List Nat} (hF : ∀ id ∈ F, lk h id = lk h' id) (a : AV) : frzAVb h F a = frzAVb h' F a := by
 cases a with
 | ref id p =>
   cases p with
   | nil =>
     simp only [frzAVb]
     cases hm : memN id F with
     | false => rfl
     | true => rw [hF id (memN_iff.1 hm)]
   | cons s p => rfl
 | _ => rfl
theorem frzAV_loc {h h' : List (Nat × Tree)} {F : List Nat} (hF : ∀ id ∈ F, lk h id = lk h' id) (a : AV) : frzAV h F a = frzAV h' F a := by
 by_cases ht : ∃ l, a = .tup l
 ·obtain ⟨l, rfl⟩ := ht
  simp only [frzAV, List.map_congr_left (fun a _ => frzAVb_loc hF a)]
 ·rw [frzAV_eq (fun l e => ht ⟨l, e⟩), frzAV_eq (fun l e => ht ⟨l, e⟩), frzAVb_loc hF a]
theorem frzAVb_ids {h : List (Nat × Tree)} {F : List Nat} {a : AV} : ∀ id ∈ (frzAVb h F a).ids, id ∈ a.ids := by
 intro id hid
 rcases frzAVb_cases h F a with ⟨i, t, rfl, _, _, e⟩ | ⟨e, _⟩ | ⟨e, _⟩
 ·rw [e] at hid
  have : (frzTop t).ids = [] := by unfold frzTop; split <;> rfl
  rw [this] at hid; cases hid
 ·rw [e] at hid; cases hid
 ·rw [e] at hid; exact hid
theorem idsL_map {f : AV → AV} (hf : ∀ a, ∀ id ∈ (f a).ids, id ∈ a.ids) : ∀ {l : List AV} {id : Nat}, id ∈ AV.idsL (l.map f) → id ∈ AV.idsL l
 | [], _, h => h
 | a :: l, id, h => by
     simp only [List.map_cons, AV.idsL, List.mem_append] at h ⊢
     exact h.imp (hf a id) (idsL_map hf)
theorem frzAV_ids {h : List (Nat × Tree)} {F : List Nat} {a : AV} : ∀ id ∈ (frzAV h F a).ids, id ∈ a.ids := by
 by_cases ht : ∃ l, a = .tup l
 ·obtain ⟨l, rfl⟩ := ht
  exact fun id hid => idsL_map (fun a => frzAVb_ids) hid
 ·rw [frzAV_eq (fun l e => ht ⟨l, e⟩)]; exact frzAVb_ids
theorem eF_loc {ic : IC} {g g' : Operand → AV} {h h' : List (Nat × Tree)} {o : Oper} {e : Eff} (he : eF ic g h o some = some e) (hgg : ∀ x ∈ o.op.operands, g x = g' x) (hg : ∀ x ∈ o.op.operands, LkOn h h' (g x)) (hd : ∀ d, o.dst = some d → lk h d = lk h' d)
  (hp : ∀ q ∈ e.put, lk h q.1 = lk h' q.1) : eF ic g' h' o some = some e := by
 unfold eF at he ⊢
 rw [← frzIds_congr (fun x hx => hgg x (valOps_sub x hx))]
 split
 ·rename_i hF
  rw [hF] at he
  rw [← e1q_congr hgg]
  exact e1q_loc he hg hd hp
 ·rename_i hne
  split at he
  ·rename_i hF; exact (hne hF).elim
  have hF : ∀ id ∈ frzIds ic.fz (frzKey o) g (valOps o.op), lk h id = lk h' id := fun id hid => by
   obtain ⟨x, hx, e⟩ := frzIds_mem id hid
   exact hg x (valOps_sub x hx) id (by rw [e]; simp [AV.ids])
  generalize frzIds ic.fz (frzKey o) g (valOps o.op) = F at he hF ⊢
  have hc : canFrz h' F = canFrz h F := by
   unfold canFrz
   rw [Bool.eq_iff_iff, List.all_eq_true, List.all_eq_true]
   exact ⟨fun hh id hid => by rw [hF id hid]; exact hh id hid, fun hh id hid => by rw [← hF id hid]; exact hh id hid⟩
  rw [hc]
  cases hcc : canFrz h F with
  | false => rw [hcc] at he; cases he
  | true =>
  rw [hcc] at he
  simp only [cond_true] at he ⊢
  rw [e1q_bind] at he ⊢
  obtain ⟨e0, h1, h2⟩ := Option.bind_eq_some_iff.1 he
  have hput : e0.put = e.put := by
   cases hk : (e0.keep.all fun i => !memN i.1 F) with
   | false => rw [hk] at h2; cases h2
   | true => rw [hk] at h2; cases h2; rfl
  have h3 : e1 ic (fun x => frzAV h' F (g' x)) (del F h') o some = some e0 := by
   rw [← e1q_congr (g := fun x => frzAV h F (g x)) (fun x hx => by simp only [hgg x hx, frzAV_loc hF])]
   refine e1q_loc h1 (fun x hx id hid => ?_) (fun d hdd => ?_) (fun q hq => ?_)
   ·rw [lk_del, lk_del, hg x hx id (frzAV_ids id hid)]
   ·rw [lk_del, lk_del, hd d hdd]
   ·rw [lk_del, lk_del, hp q (by rw [← hput]; exact hq)]
  rw [h3]
  exact h2
end Go.Fw
end
section
namespace Go.Fw
def predsB (ops : Array Oper) (i : Nat) : List Nat := match ops[i]? with
 | some o => (o.after.toList.filter (Region.binds .any)).map (·.on)
 | none => []
def skipEff (d : Nat) : Eff := ⟨some (d, .cv undef), [], [], []⟩
noncomputable def eFc (ic : IC) {β : Type} (ft mo : List Nat) (st : St) (o : Oper) (K : Eff → Option β) : Option β :=
 eF ic (opA st.g) st.h o fun e => bif footOk ft mo (opA st.g) o e then K e else none
def Stp (ic : IC) (ops : Array Oper) (ft mo : Nat → List Nat) (i : Nat) (st : St) (e : Eff) : Prop :=
 ∃ o, ops[i]? = some o ∧ ((wantP ops st o true ∧ eF ic (opA st.g) st.h o some = some e ∧ footOk (ft i) (mo i) (opA st.g) o e = true) ∨
   (wantP ops st o false ∧ ∃ d, o.dst = some d ∧ slotOk ic.n ic.pin d = true ∧ e = skipEff d))
noncomputable def iD (ic : IC) {β : Type} (ops : Array Oper) (ft mo : Nat → List Nat) : List Nat → St → (St → Option β) → Option β
 | [], st, K => K st
 | i :: l, st, K => match ops[i]? with
   | none => none
   | some o => match o.guard with
     | none => eFc ic (ft i) (mo i) st o fun e => iD ic ops ft mo l (e.app st) K
     | some (j, want) => match (ops[j]?).bind (·.dst), o.dst with
       | some dj, some d => match gt st.g dj with
         | .val .bool x => bif slotOk ic.n ic.pin d then
            (match x == want with
            | true => eFc ic (ft i) (mo i) ⟨(dj, .val .bool want) :: st.g, st.h⟩ o fun e => iD ic ops ft mo l (e.app ⟨(dj, .val .bool want) :: st.g, st.h⟩) K
            | false => iD ic ops ft mo l ⟨(d, .cv undef) :: (dj, .val .bool (!want)) :: st.g, st.h⟩ K) else none
         | .cv (.tuple _) => bif slotOk ic.n ic.pin d then iD ic ops ft mo l ⟨(d, .cv undef) :: st.g, st.h⟩ K else none
         | _ => none
       | _, _ => none
def RunD (ic : IC) (ops : Array Oper) (ft mo : Nat → List Nat) : List Nat → St → St → Prop
 | [], s, t => SEq s t
 | i :: l, s, t => ∃ e, Stp ic ops ft mo i s e ∧ RunD ic ops ft mo l (e.app s) t
section
variable {ic : IC} {ops : Array Oper} {ft mo : Nat → List Nat}
theorem dstOk.ok {x : Option (Nat × AV)} {y : Option Nat} (h : dstOk x y = true) : ∀ d av, x = some (d, av) → y = some d := by
 intro d av e
 subst e
 cases y with
 | none => cases h
 | some d' => rw [Nat.eq_of_beq_eq_true (show Nat.beq d d' = true from h)]
theorem eFc_some {f m : List Nat} {st : St} {o : Oper} {β : Type} {K : Eff → Option β} {r : β} (h : eFc ic f m st o K = some r) :
  ∃ e, eF ic (opA st.g) st.h o some = some e ∧ footOk f m (opA st.g) o e = true ∧ K e = some r := by
 unfold eFc at h
 rw [eF_bind] at h
 obtain ⟨e, h1, h2⟩ := Option.bind_eq_some_iff.1 h
 refine ⟨e, h1, ?_⟩
 cases hc : footOk f m (opA st.g) o e with
 | false => rw [hc] at h2; cases h2
 | true => rw [hc] at h2; exact ⟨rfl, h2⟩
def InF (f : List Nat) (a : AV) : Prop := (∀ id ∈ a.ids, id ∈ f) ∨ ∃ id, a = .ref id [] ∧ id + 500000 ∈ f
theorem softB.ok {f : List Nat} {a : AV} (h : softB f a = true) : ∃ id, a = .ref id [] ∧ id + 500000 ∈ f := by
 unfold softB at h
 split at h
 ·exact ⟨_, rfl, memN_iff.1 h⟩
 ·cases h
theorem InF.ok {f : List Nat} {a : AV} (h : (subB a.ids f || softB f a) = true) : InF f a := by
 rcases Bool.or_eq_true _ _ ▸ h with h | h
 ·exact .inl (subB.ok h)
 ·exact .inr (softB.ok h)
def OpIn (op : Op) (f : List Nat) (a : AV) : Prop :=
 (∃ x i l c, op = .extract x i ∧ a = .tup l ∧ l[i]? = some c ∧ notDead c = true ∧ InF f c) ∨
 ((∀ x i, op ≠ .extract x i) ∧ allAlive a = true ∧ InF f a ∧ ((∀ id ∈ a.ids, id ∈ f) ∨ isMv op = true))
theorem opOk.ok {op : Op} {f : List Nat} {a : AV} (h : opOk op f a = true) : OpIn op f a := by
 unfold opOk at h
 split at h
 ·rename_i x i
  split at h
  case h_2 => cases h
  rename_i l
  split at h
  case h_2 => cases h
  rename_i c hc
  rw [Bool.and_eq_true] at h
  exact .inl ⟨x, i, l, c, rfl, rfl, hc, h.1, .ok h.2⟩
 ·rename_i hne
  simp only [Bool.and_eq_true, Bool.or_eq_true] at h
  refine .inr ⟨fun x i e => hne x i e, h.1, ?_⟩
  rcases h.2 with h | ⟨h, h'⟩
  ·exact ⟨.inl (subB.ok h), .inl (subB.ok h)⟩
  ·exact ⟨.inr (softB.ok h'), .inr h⟩
theorem footOk.ok {f m : List Nat} {g : Operand → AV} {o : Oper} {e : Eff} (h : footOk f m g o e = true) :
  (∀ d av, e.d = some (d, av) → o.dst = some d) ∧ (∀ x ∈ o.op.operands, OpIn o.op f (g x)) ∧ (∀ id ∈ e.S, id ∈ m ∧ (id + 500000 ∈ m ∨ isRoot e.keep (.ref id []) = true)) ∧ (∀ q ∈ e.put, q.1 ∈ m) ∧ (∀ d av, e.d = some (d, av) → InF f av) := by
 unfold footOk at h
 simp only [Bool.and_eq_true] at h
 obtain ⟨⟨⟨⟨h1, h2⟩, h3⟩, h4⟩, h5⟩ := h
 refine ⟨dstOk.ok h1, fun x hx => ?_, fun id hid => ?_, fun q hq => memN_iff.1 (List.all_eq_true.1 h4 q hq), fun d av hd => ?_⟩
 ·exact opOk.ok (List.all_eq_true.1 h2 x (by simpa using hx))
 ·have := List.all_eq_true.1 h3 id hid
  simp only [Bool.and_eq_true, Bool.or_eq_true] at this
  exact ⟨memN_iff.1 this.1, this.2.imp memN_iff.1 (fun h => h)⟩
 ·rw [hd] at h5; exact InF.ok h5
def Sees (f : List Nat) (a a' : AV) : Prop := (allAlive a = true → InF f a → a' = a) ∧ ∀ l, a = .tup l → ∃ l', a' = .tup l' ∧ ∀ (i : Nat) (c : AV), l[i]? = some c → notDead c = true → InF f c → l'[i]? = some c
theorem Sees.refl {f : List Nat} {a a' : AV} (h : a' = a) : Sees f a a' := ⟨fun _ _ => h, fun l hl => ⟨l, by rw [h, hl], fun _ _ h _ _ => h⟩⟩
theorem Sees.opOk {f : List Nat} {op : Op} {a a' : AV} (h : Sees f a a') (ho : opOk op f a = true) : Fw.opOk op f a' = true := by
 rcases opOk.ok ho with ⟨x, i, l, c, h1, h2, h3, h4, h5⟩ | ⟨h1, h2, h3, h4⟩
 ·obtain ⟨l', e, h6⟩ := h.2 l h2
  subst h1 h2 e
  simp only [Fw.opOk, h3, h6 i c h3 h4 h5] at ho ⊢
  exact ho
 ·rw [h.1 h2 h3]; exact ho
theorem eF_ext {ic : IC} {g g' : Operand → AV} {h h' : List (Nat × Tree)} {o : Oper} {e : Eff} {x : Operand} {i : Nat} {l l' : List AV} {c : AV} (hop : o.op = .extract x i) (he : eF ic g h o some = some e) (h1 : g x = .tup l) (h2 : g' x = .tup l') (h3 : l[i]? = some c) (h4 : l'[i]? = some c) : eF ic g' h' o some = some e := by
 unfold eF at he ⊢
 have hf : ∀ g : Operand → AV, frzIds ic.fz (frzKey o) g (valOps o.op) = [] := fun g => by rw [hop]; rfl
 rw [hf] at he ⊢
 simp only at he ⊢
 unfold e1 at he ⊢
 cases hd : o.dst with
 | none => rw [hd] at he; simp only [hop] at he; cases he
 | some d =>
   rw [hd] at he
   simp only [hop, evalN, evalF, extF, h1, h2, h3, h4] at he ⊢
   exact he
theorem eF_mv {ic : IC} {g g' : Operand → AV} {h h' : List (Nat × Tree)} {o : Oper} {e : Eff} (hm : isMv o.op = true) (he : eF ic g h o some = some e) (hg : ∀ x ∈ o.op.operands, g x = g' x) : eF ic g' h' o some = some e := by
 unfold isMv at hm
 split at hm
 ·rename_i x hop
  have hx : g x = g' x := hg x (by rw [hop]; simp [Op.operands])
  unfold eF at he ⊢
  have hf : ∀ g : Operand → AV, frzIds ic.fz (frzKey o) g (valOps o.op) = [] := fun g => by rw [hop]; rfl
  rw [hf] at he ⊢
  simp only at he ⊢
  unfold e1 at he ⊢
  cases hd : o.dst with
  | none => rw [hd] at he; simp only [hop] at he; cases he
  | some d =>
    rw [hd] at he
    simp only [hop, evalN, evalF, ← hx] at he ⊢
    exact he
 ·cases hm
theorem mem_reads {o : Oper} {k : Nat} (h : .tmp k ∈ o.op.operands) : k ∈ o.looksAt ops :=
 List.mem_append_left _ (List.mem_filterMap.2 ⟨.tmp k, by simpa using h, rfl⟩)
theorem mem_reads_guard {o : Oper} {j dj : Nat} {want : Bool} (hg : o.guard = some (j, want)) (hj : (ops[j]?).bind (·.dst) = some dj) : dj ∈ o.looksAt ops :=
 List.mem_append_right _ (by rw [hg]; simp only [hj]; simp)
theorem wantP_congr {f : List Nat} {s s' : St} {o : Oper} {b : Bool} (h : ∀ k ∈ o.looksAt ops, Sees f (gt s.g k) (gt s'.g k)) (hw : wantP ops s o b) : wantP ops s' o b := by
 unfold wantP at *
 cases hg : o.guard with
 | none => rw [hg] at hw; exact hw
 | some p =>
   obtain ⟨j, want⟩ := p
   rw [hg] at hw
   simp only at hw ⊢
   cases hj : (ops[j]?).bind (·.dst) with
   | none => rw [hj] at hw; exact hw
   | some dj =>
     rw [hj] at hw
     simp only at hw ⊢
     have hm := h dj (mem_reads_guard hg hj)
     split at hw
     ·rename_i x hx
      rw [hm.1 (by rw [hx]; rfl) (by rw [hx]; exact .inl (by simp [AV.ids])), hx]; exact hw
     ·rename_i l hx
      rw [hm.1 (by rw [hx]; rfl) (by rw [hx]; exact .inl (by simp [AV.ids])), hx]; exact hw
     ·exact hw.elim
theorem Stp.congr {i : Nat} {s s' : St} {e : Eff} (h : Stp ic ops ft mo i s e) (hg : ∀ o, ops[i]? = some o → ∀ k ∈ o.looksAt ops, Sees (ft i) (gt s.g k) (gt s'.g k))
  (hh : ∀ o, ops[i]? = some o → ∀ id, id ∈ ft i ∨ id ∈ mo i ∨ o.dst = some id → lk s.h id = lk s'.h id) : Stp ic ops ft mo i s' e := by
 obtain ⟨o, ho, h⟩ := h
 have hg := hg o ho
 have hh := hh o ho
 refine ⟨o, ho, h.imp (fun ⟨h1, h2, h3⟩ => ⟨wantP_congr hg h1, ?_⟩) (fun ⟨h1, h2⟩ => ⟨wantP_congr hg h1, h2⟩)⟩
 obtain ⟨f1, f2, f3, f4, f5⟩ := footOk.ok h3
 have hs : ∀ x ∈ o.op.operands, Sees (ft i) (opA s.g x) (opA s'.g x) := by
  intro x hx
  cases x with
  | tmp k => exact hg k (mem_reads hx)
  | const v => exact .refl (by cases v <;> rfl)
  | func f => exact .refl rfl
  | global g => exact .refl rfl
 constructor
 ·by_cases hex : ∃ x j, o.op = .extract x j
  ·obtain ⟨x, j, hop⟩ := hex
   have hx : x ∈ o.op.operands := by rw [hop]; simp [Op.operands]
   rcases f2 x hx with ⟨x', j', l, c, g1, g2, g3, g4, g5⟩ | ⟨g1, _⟩
   ·rw [hop] at g1; cases g1
    obtain ⟨l', q1, q2⟩ := (hs x hx).2 l g2
    exact eF_ext hop h2 g2 q1 g3 (q2 _ c g3 g4 g5)
   ·exact absurd hop (g1 x j)
  ·have hne : ∀ x ∈ o.op.operands, allAlive (opA s.g x) = true ∧ InF (ft i) (opA s.g x) ∧ ((∀ id ∈ (opA s.g x).ids, id ∈ ft i) ∨ isMv o.op = true) := fun x hx => by
    rcases f2 x hx with ⟨x', j', l, c, g1, _⟩ | ⟨_, g⟩
    ·exact absurd ⟨x', j', g1⟩ hex
    ·exact g
   have ha : ∀ x ∈ o.op.operands, opA s.g x = opA s'.g x := fun x hx => ((hs x hx).1 (hne x hx).1 (hne x hx).2.1).symm
   by_cases hm : isMv o.op = true
   ·exact eF_mv hm h2 ha
   ·exact eF_loc h2 ha (fun x hx id hid => hh id (.inl (((hne x hx).2.2.resolve_right hm) id hid))) (fun d hd => hh d (.inr (.inr hd))) (fun q hq => hh _ (.inr (.inl (f4 q hq))))
 ·unfold footOk at *
  have : (o.op.operands.toList.all fun x => opOk o.op (ft i) (opA s'.g x)) = true := by
   simp only [Bool.and_eq_true] at h3
   rw [List.all_eq_true]
   intro x hx
   exact (hs x (by simpa using hx)).opOk (List.all_eq_true.1 h3.1.1.1.2 x hx)
  simp only [Bool.and_eq_true] at h3 ⊢
  exact ⟨⟨⟨⟨h3.1.1.1.1, this⟩, h3.1.1.2⟩, h3.1.2⟩, h3.2⟩
theorem Stp.eff {i : Nat} {s : St} {e : Eff} (h : Stp ic ops ft mo i s e) {o : Oper} (ho : ops[i]? = some o) :
  (∀ d av, e.d = some (d, av) → o.dst = some d) ∧ (∀ id ∈ e.S, id ∈ mo i ∧ (id + 500000 ∈ mo i ∨ isRoot e.keep (.ref id []) = true)) ∧ (∀ q ∈ e.put, q.1 ∈ mo i) ∧ (∀ d av, e.d = some (d, av) → InF (ft i) av) := by
 obtain ⟨o', ho', h⟩ := h
 rw [ho] at ho'; cases ho'
 rcases h with ⟨_, _, h⟩ | ⟨_, d, hd, _, rfl⟩
 ·obtain ⟨f1, f2, f3, f4, f5⟩ := footOk.ok h
  exact ⟨f1, f3, f4, f5⟩
 ·refine ⟨fun d' av hd' => ?_, by simp [skipEff], by simp [skipEff], fun d' av hd' => ?_⟩
  ·cases hd'; exact hd
  ·cases hd'; exact .inl (by simp [AV.ids])
theorem killb_cases (S : List Nat) (keep : List (Nat × List Step)) (a : AV) : kill1b S keep a = .dead ∨ kill1b S keep a = a := by
 unfold kill1b
 cases (a.uses S && !(isRoot' S keep a)) <;> simp
theorem killb_notDead {S : List Nat} {keep : List (Nat × List Step)} {a : AV} (h : notDead (kill1b S keep a) = true) : kill1b S keep a = a := by
 rcases killb_cases S keep a with e | e
 ·rw [e] at h; cases h
 ·exact e
theorem killb_dis {S : List Nat} {keep : List (Nat × List Step)} {a : AV} (h : ∀ id ∈ a.ids, id ∉ S) : kill1b S keep a = a := by
 refine uses_nilb ?_ keep
 unfold AV.uses
 rw [List.any_eq_false]
 intro id hid hm
 exact h id hid (memN_iff.1 hm)
theorem kill1q_dis {S : List Nat} {keep : List (Nat × List Step)} {a : AV} (h : ∀ id ∈ a.ids, id ∉ S) : kill1 S keep a = a := by
 refine uses_nil' ?_ keep
 unfold AV.uses
 rw [List.any_eq_false]
 intro id hid hm
 exact h id hid (memN_iff.1 hm)
theorem killb_inF {f m S : List Nat} {keep : List (Nat × List Step)} {a : AV} (h : InF f a) (hS : ∀ id ∈ S, id ∈ m ∧ (id + 500000 ∈ m ∨ isRoot keep (.ref id []) = true)) (hd : ∀ id ∈ f, id ∉ m) : kill1b S keep a = a := by
 rcases h with h | ⟨id, rfl, h⟩
 ·exact killb_dis fun id hid hm => hd id (h id hid) (hS id hm).1
 ·by_cases hm : id ∈ S
  ·have := (hS id hm).2.resolve_left (fun h' => hd _ h h')
   unfold kill1b
   rw [show isRoot' S keep (.ref id []) = isRoot keep (.ref id []) from rfl, this]; simp
  ·exact killb_dis fun i hi hm' => by
    simp only [AV.ids, List.mem_singleton] at hi
    exact hm (hi ▸ hm')
theorem kill1q_inF {f m S : List Nat} {keep : List (Nat × List Step)} {a : AV} (h : InF f a) (hS : ∀ id ∈ S, id ∈ m ∧ (id + 500000 ∈ m ∨ isRoot keep (.ref id []) = true)) (hd : ∀ id ∈ f, id ∉ m) : kill1 S keep a = a := by
 cases a with
 | tup l =>
   rcases h with h | ⟨id, e, _⟩
   ·exact kill1q_dis fun id hid hm => hd id (h id hid) (hS id hm).1
   ·cases e
 | _ => exact killb_inF h hS hd
theorem killb_comm (S : List Nat) (keep : List (Nat × List Step)) (S' : List Nat) (keep' : List (Nat × List Step)) (a : AV) : kill1b S keep (kill1b S' keep' a) = kill1b S' keep' (kill1b S keep a) := by
 have hd : ∀ S keep, kill1b S keep .dead = .dead := fun S keep => by simp [kill1b, AV.uses, AV.ids]
 rcases killb_cases S keep a with h1 | h1 <;> rcases killb_cases S' keep' a with h2 | h2 <;> simp only [h1, h2, hd]
theorem kill1q_b {S : List Nat} {keep : List (Nat × List Step)} {a : AV} (h : ∀ l, a ≠ .tup l) : kill1 S keep a = kill1b S keep a := by
 cases a with
 | tup l => exact absurd rfl (h l)
 | _ => rfl
theorem kill1q_comm (S : List Nat) (keep : List (Nat × List Step)) (S' : List Nat) (keep' : List (Nat × List Step)) (a : AV) : kill1 S keep (kill1 S' keep' a) = kill1 S' keep' (kill1 S keep a) := by
 by_cases ht : ∃ l, a = .tup l
 ·obtain ⟨l, rfl⟩ := ht
  simp only [kill1, List.map_map]
  exact congrArg _ (List.map_congr_left fun a _ => killb_comm S keep S' keep' a)
 ·have hn : ∀ l, a ≠ .tup l := fun l e => ht ⟨l, e⟩
  have hb : ∀ S keep, ∀ l, kill1b S keep a ≠ .tup l := fun S keep l e => by
   rcases killb_cases S keep a with h | h
   ·rw [h] at e; cases e
   ·rw [h] at e; exact hn l e
  rw [kill1q_b hn, kill1q_b hn, kill1q_b (hb _ _), kill1q_b (hb _ _), killb_comm]
theorem kill1q_sees (f S : List Nat) (keep : List (Nat × List Step)) (a : AV) : Sees f (kill1 S keep a) a := by
 by_cases ht : ∃ l, a = .tup l
 ·obtain ⟨l, rfl⟩ := ht
  refine ⟨fun h _ => ?_, fun l1 h1 => ⟨l, rfl, fun i c hc hn _ => ?_⟩⟩
  ·simp only [kill1] at h ⊢
   have h : ∀ x ∈ l.map (kill1b S keep), notDead x = true := List.all_eq_true.1 h
   congr 1
   rw [List.map_congr_left (fun x hx => killb_notDead (h _ (List.mem_map.2 ⟨x, hx, rfl⟩))), List.map_id']
  ·simp only [kill1, AV.tup.injEq] at h1
   subst h1
   rw [List.getElem?_map] at hc
   obtain ⟨c0, h2, rfl⟩ := Option.map_eq_some_iff.1 hc
   rw [killb_notDead hn, h2]
 ·have hn : ∀ l, a ≠ .tup l := fun l e => ht ⟨l, e⟩
  rw [kill1q_b hn]
  have hb : ∀ l, kill1b S keep a ≠ .tup l := fun l e => by
   rcases killb_cases S keep a with h | h
   ·rw [h] at e; cases e
   ·rw [h] at e; exact hn l e
  refine ⟨fun h _ => ?_, fun l e => absurd e (hb l)⟩
  have : notDead (kill1b S keep a) = true := by
   generalize kill1b S keep a = b at h hb
   cases b with
   | tup l => exact absurd rfl (hb l)
   | _ => exact h
  exact (killb_notDead this).symm
theorem kill1q_sees2 {f m S : List Nat} {keep : List (Nat × List Step)} (a : AV) (hS : ∀ id ∈ S, id ∈ m ∧ (id + 500000 ∈ m ∨ isRoot keep (.ref id []) = true)) (hd : ∀ id ∈ f, id ∉ m) : Sees f a (kill1 S keep a) := by
 refine ⟨fun _ h => kill1q_inF h hS hd, fun l e => ?_⟩
 subst e
 refine ⟨_, rfl, fun i c hc _ hf => ?_⟩
 rw [List.getElem?_map, hc, Option.map_some, killb_inF hf hS hd]
theorem app_gt_ne {e : Eff} {s : St} {k : Nat} (h : ∀ d av, e.d = some (d, av) → d ≠ k) : gt (e.app s).g k = kill1 e.S e.keep (gt s.g k) := by
 rw [Eff.app_gt]
 cases hd : e.d with
 | none => rfl
 | some q => obtain ⟨d, av⟩ := q; simp only; rw [if_neg (h d av hd)]
theorem lk_not_mem {α : Type} {l : List (Nat × α)} {id : Nat} (h : ∀ q ∈ l, q.1 ≠ id) : lk l id = none := by
 induction l with
 | nil => rfl
 | cons q l ih =>
   obtain ⟨k, v⟩ := q
   rw [lk_cons, if_neg (h (k, v) (by simp)), ih (fun q hq => h q (by simp [hq]))]
theorem app_lk_ne {e : Eff} {s : St} {id : Nat} (h1 : id ∉ e.S) (h2 : ∀ q ∈ e.put, q.1 ≠ id) : lk (e.app s).h id = lk s.h id := by
 rw [Eff.app_lk, if_neg h1, lk_not_mem h2]; rfl
def disjB (l r : List Nat) : Bool := l.all fun i => !(memN i r)
theorem disjB.ok {l r : List Nat} (h : disjB l r = true) : ∀ i ∈ l, i ∉ r := fun i hi hm => by
 have := List.all_eq_true.1 h i hi
 rw [memN_iff.2 hm] at this; cases this
def dl (o : Oper) : List Nat := match o.dst with
 | some d => [d]
 | none => []
theorem mem_dl {o : Oper} {d : Nat} (h : o.dst = some d) : d ∈ dl o := by unfold dl; rw [h]; simp
def commB (ops : Array Oper) (ft mo : Nat → List Nat) (x i : Nat) : Bool :=
 match ops[x]?, ops[i]? with
 | some ox, some oi => ox.apart ops oi && disjB (mo i) (dl ox ++ (ft x ++ mo x)) && disjB (mo x) (dl oi ++ ft i)
 | _, _ => false
theorem Stp.swap {x i : Nat} {s : St} {ex ei : Eff} (hc : commB ops ft mo x i = true) (h1 : Stp ic ops ft mo x s ex) (h2 : Stp ic ops ft mo i (ex.app s) ei) :
  Stp ic ops ft mo i s ei ∧ Stp ic ops ft mo x (ei.app s) ex ∧ SEq (ei.app (ex.app s)) (ex.app (ei.app s)) := by
 unfold commB at hc
 split at hc
 case h_2 => cases hc
 rename_i ox oi hox hoi
 simp only [Bool.and_eq_true] at hc
 obtain ⟨⟨hap, hd1⟩, hd2⟩ := hc
 have hd1 := disjB.ok hd1
 have hd2 := disjB.ok hd2
 obtain ⟨a1, a2, a3⟩ := Oper.apart_spec hap
 obtain ⟨x1, x2, x3, x4⟩ := h1.eff hox
 obtain ⟨i1, i2, i3, i4⟩ := h2.eff hoi
 have rx : ∀ k ∈ oi.looksAt ops, gt (ex.app s).g k = kill1 ex.S ex.keep (gt s.g k) := fun k hk => app_gt_ne fun d av hd e => a1 d (x1 d av hd) (e ▸ hk)
 have ri : ∀ k ∈ ox.looksAt ops, gt (ei.app s).g k = kill1 ei.S ei.keep (gt s.g k) := fun k hk => app_gt_ne fun d av hd e => a3 d (i1 d av hd) (e ▸ hk)
 have hne : ∀ d a d' a', ei.d = some (d, a) → ex.d = some (d', a') → d ≠ d' := fun d a d' a' hd hd' e => a2 d' (x1 d' a' hd') (e ▸ i1 d a hd)
 -- what each touches is not looked at by the other
 have ti : ∀ id, id ∈ ft x ∨ id ∈ mo x ∨ ox.dst = some id → id ∉ mo i := fun id h hm => hd1 id hm (by
  rcases h with h | h | h
  ·simp [h]
  ·simp [h]
  ·simp [mem_dl h])
 have tx : ∀ id, id ∈ ft i ∨ oi.dst = some id → id ∉ mo x := fun id h hm => hd2 id hm (by
  rcases h with h | h
  ·simp [h]
  ·simp [mem_dl h])
 have tm : ∀ id, id ∈ mo i → id ∉ mo x := fun id h hm => ti id (.inr (.inl hm)) h
 have lx : ∀ id, id ∉ mo x → ∀ s : St, lk (ex.app s).h id = lk s.h id := fun id h s => app_lk_ne (fun hm => h (x2 id hm).1) (fun q hq e => h (e ▸ x3 q hq))
 have li : ∀ id, id ∉ mo i → ∀ s : St, lk (ei.app s).h id = lk s.h id := fun id h s => app_lk_ne (fun hm => h (i2 id hm).1) (fun q hq e => h (e ▸ i3 q hq))
 refine ⟨h2.congr (fun o ho k hk => ?_) (fun o ho id hid => ?_), h1.congr (fun o ho k hk => ?_) (fun o ho id hid => ?_), ?_, fun id => ?_⟩
 ·rw [hoi] at ho; cases ho
  rw [rx k hk]
  exact kill1q_sees _ _ _ _
 ·rw [hoi] at ho; cases ho
  refine lx id ?_ s
  rcases hid with h | h | h
  ·exact tx id (.inl h)
  ·exact tm id h
  ·exact tx id (.inr h)
 ·rw [hox] at ho; cases ho
  rw [ri k hk]
  exact kill1q_sees2 _ i2 (fun id hid => ti id (.inl hid))
 ·rw [hox] at ho; cases ho
  exact (li id (ti id hid) s).symm
 ·intro k
  rw [Eff.app_gt ei, Eff.app_gt ex (ei.app s), Eff.app_gt ex s, Eff.app_gt ei s]
  cases hdx : ex.d with
  | none =>
    cases hdi : ei.d with
    | none => exact kill1q_comm _ _ _ _ _
    | some q =>
      obtain ⟨d, av⟩ := q
      simp only
      split
      ·exact (kill1q_inF (i4 d av hdi) x2 (fun id hid => tx id (.inl hid))).symm
      ·exact kill1q_comm _ _ _ _ _
  | some p =>
    obtain ⟨d', av'⟩ := p
    cases hdi : ei.d with
    | none =>
      simp only
      split
      ·exact kill1q_inF (x4 d' av' hdx) i2 (fun id hid => ti id (.inl hid))
      ·exact kill1q_comm _ _ _ _ _
    | some q =>
      obtain ⟨d, av⟩ := q
      have hne : d ≠ d' := hne d av d' av' hdi hdx
      simp only
      by_cases h1 : d = k
      ·subst h1
       rw [if_pos rfl, if_neg (Ne.symm hne), if_pos rfl]
       exact (kill1q_inF (i4 d av hdi) x2 (fun id hid => tx id (.inl hid))).symm
      ·rw [if_neg h1, if_neg h1]
       split
       ·exact kill1q_inF (x4 d' av' hdx) i2 (fun id hid => ti id (.inl hid))
       ·exact kill1q_comm _ _ _ _ _
 ·by_cases hm : id ∈ mo i
  ·rw [lx id (tm id hm) (ei.app s), Eff.app_lk ei, Eff.app_lk ei, lx id (tm id hm) s]
  ·rw [li id hm (ex.app s), Eff.app_lk ex, Eff.app_lk ex, li id hm s]
theorem Stp.seq {i : Nat} {s s' : St} {e : Eff} (hs : SEq s s') (h : Stp ic ops ft mo i s e) : Stp ic ops ft mo i s' e :=
 h.congr (fun _ _ k _ => .refl (hs.g k).symm) (fun _ _ id _ => hs.h id)
theorem RunD.seq : ∀ {l : List Nat} {s s' t : St}, SEq s s' → RunD ic ops ft mo l s t → RunD ic ops ft mo l s' t
 | [], _, _, _, hs, h => hs.symm.trans h
 | _ :: _, _, _, _, hs, ⟨e, h1, h2⟩ => ⟨e, h1.seq hs, RunD.seq (hs.app e) h2⟩
theorem RunD.front {i : Nat} {B : List Nat} : ∀ {A : List Nat} {s t : St}, (∀ x ∈ A, commB ops ft mo x i = true) → RunD ic ops ft mo (A ++ i :: B) s t → ∃ e, Stp ic ops ft mo i s e ∧ RunD ic ops ft mo (A ++ B) (e.app s) t
 | [], s, t, _, ⟨e, h1, h2⟩ => ⟨e, h1, h2⟩
 | x :: A, s, t, hc, ⟨ex, h1, h2⟩ => by
     obtain ⟨ei, h3, h4⟩ := RunD.front (fun y hy => hc y (by simp [hy])) h2
     obtain ⟨g1, g2, g3⟩ := Stp.swap (hc x (by simp)) h1 h3
     exact ⟨ei, g1, ex, g2, h4.seq g3⟩
end
end Go.Fw
end