/-
  The framework, part 9: the small operations; all operations that compute, read or make memory in one function.
-/
import Derived.Test.YtlalecmgnaoiiaaFw8
namespace Go.Fw

section
variable {E : Env} {C : Ctx} {st : St} {a : Act} {w : World} {I : Nat → Prop} {rt : Nat → List Value} {fp : Nat → List Nat} {o : Oper} {Q : AV → List (Nat × Tree) → Prop}

def pickF (c x y : AV) : Res :=
  match c with
  | .val .bool c => .part Bool (fun b => c = b) (fun b => (match b with | true => x | false => y, []))
  | _ => .bad

theorem pickF_sound (hR : RelAt C st a.tmps w I rt fp) {c x y : Operand} (ho : o.op = .pick c x y) (h : (pickF (opA st.g c) (opA st.g x) (opA st.g y)).K Q) : Yields E C st a w I rt fp o Q := by
  have hc := hR.opA c
  unfold pickF at h
  split at h
  case h_2 => exact h.elim
  rename_i b ec
  obtain ⟨b, rfl, h⟩ := h
  rw [ec] at hc
  generalize hv : a.eval c = v at hc
  cases hc with | val r =>
  obtain ⟨_, rfl⟩ := r
  cases b
  · exact .pure (v := a.eval y) (by simp [execOp, ho, hv, regV, asBool]) (hR.opA y) h
  · exact .pure (v := a.eval x) (by simp [execOp, ho, hv, regV, asBool]) (hR.opA x) h

def unF (op : UnOp) (x : AV) : Res :=
  match op, x with
  | .neg, .val (.int k) x => .part Int (fun z => k.wrap (0 - x) = z) (fun z => (.val (.int k) z, []))
  | .xor, .val (.int k) x => .part Int (fun z => k.wrap (BitVec.ofInt k.bits (if k.signed then -1 else k.max) ^^^ BitVec.ofInt k.bits x).toNat = z) (fun z => (.val (.int k) z, []))
  | .not, .val .bool b => .tot (.val .bool (!b)) []
  | _, _ => .bad

theorem unF_sound (hR : RelAt C st a.tmps w I rt fp) {op : UnOp} {T : TypeId} {x : Operand} (ho : o.op = .unOp op T x) (h : (unF op (opA st.g x)).K Q) : Yields E C st a w I rt fp o Q := by
  have hx := hR.opA x
  unfold unF at h
  generalize hv : a.eval x = v at hx
  split at h
  · rename_i k n ex
    obtain ⟨z, rfl, h⟩ := h
    rw [ex] at hx
    cases hx with | val r =>
    obtain ⟨_, rfl⟩ := r
    exact .pure (v := .int k _) (by simp only [execOp, ho, hv, regV, Op.unary, Op.intArith]; rfl) (.int k _) h
  · rename_i k n ex
    obtain ⟨z, rfl, h⟩ := h
    rw [ex] at hx
    cases hx with | val r =>
    obtain ⟨_, rfl⟩ := r
    exact .pure (v := .int k _) (by simp only [execOp, ho, hv, regV, Op.unary, Op.intBits]; rfl) (.int k _) h
  · rename_i b ex
    rw [ex] at hx
    cases hx with | val r =>
    obtain ⟨_, rfl⟩ := r
    exact .pure (v := .bool _) (by simp only [execOp, ho, hv, regV, Op.unary]; rfl) (.bool _) h
  · exact h.elim

def convF (tt : List (TypeId × Ty)) (s d : TypeId) (x : AV) : Res :=
  match lk tt s, lk tt d, x with
  | some (.int _), some (.int k), .val (.int _) x => .part Int (fun z => k.wrap x = z) (fun z => (.val (.int k) z, []))
  | _, _, _ => .bad

theorem convF_sound (hR : RelAt C st a.tmps w I rt fp) {s d : TypeId} {x : Operand} (ho : o.op = .convert s d x) (h : (convF E.tt s d (opA st.g x)).K Q) : Yields E C st a w I rt fp o Q := by
  have hx := hR.opA x
  unfold convF at h
  split at h
  case h_2 => exact h.elim
  rename_i k1 k2 k3 n h1 h2 ex
  obtain ⟨z, rfl, h⟩ := h
  generalize hv : a.eval x = v at hx
  rw [ex] at hx
  cases hx with | val r =>
  obtain ⟨_, rfl⟩ := r
  obtain ⟨_, _, _, _, _, u1⟩ := E.ok s _ h1
  obtain ⟨_, _, _, _, _, u2⟩ := E.ok d _ h2
  exact .pure (v := .int k2 _) (by simp [execOp, ho, hv, regV, convert, run_underlying u1, run_underlying u2, Conv.intToInt]) (.int k2 _) h

def extF (x : AV) (n : Nat) : Res :=
  match x with
  | .tup l => match l[n]? with
    | some av => .tot av []
    | none => .bad
  | _ => .bad

theorem extF_sound (hR : RelAt C st a.tmps w I rt fp) {x : Operand} {n : Nat} (ho : o.op = .extract x n) (h : (extF (opA st.g x) n).K Q) : Yields E C st a w I rt fp o Q := by
  have hx := hR.opA x
  unfold extF at h
  generalize hv : a.eval x = v at hx
  split at h
  case h_2 => exact h.elim
  rename_i l ex
  split at h
  case h_2 => exact h.elim
  rename_i av hl
  rw [ex] at hx
  cases hx with | tup hll hh =>
  rename_i vs
  have hn : n < vs.size := by have := (List.getElem?_eq_some_iff.1 hl).1; omega
  have : vs[n]? = some vs[n] := Array.getElem?_eq_getElem hn
  exact .pure (v := vs[n]) (by simp [execOp, ho, hv, Instr.extract, this]) (hh n av _ hl this) h

/-- max and min of integers. -/
def mmF (mx : Bool) (x : AV) : List AV → Res
  | [] => .tot x []
  | y :: r => match x, y with
    | .val (.int k) x, .val (.int k') y => if k = k' then (match mx with | true => mmF mx (.val (.int k) (if y > x then y else x)) r | false => mmF mx (.val (.int k) (if y < x then y else x)) r) else .bad
    | _, _ => .bad

theorem mmF_sound (hR : RelAt C st a.tmps w I rt fp) (mx : Bool) : ∀ (r : List Operand) (x : AV) (v : Value), AVok (md I C.B) w st.h rt fp x v → (mmF mx x (r.map (opA st.g))).K Q →
    ∃ v' av, ((r.map a.eval).foldlM (match mx with | true => Builtin.max2 | false => Builtin.min2) v).run E.P w = .ok v' w ∧ AVok (md I C.B) w st.h rt fp av v' ∧ Q av []
  | [], x, v, hx, h => ⟨v, x, rfl, hx, h⟩
  | y :: r, x, v, hx, h => by
      have hy := hR.opA y
      simp only [List.map_cons, mmF] at h
      generalize hv : a.eval y = u at hy
      split at h
      case h_2 => exact h.elim
      rename_i k m k' n ey
      split at h
      case isFalse => exact h.elim
      rename_i hk
      subst hk
      rw [ey] at hy
      cases hx with | val r1 => cases hy with | val r2 =>
      obtain ⟨_, rfl⟩ := r1
      obtain ⟨_, rfl⟩ := r2
      cases mx
      · obtain ⟨v', av, q1, q2, q3⟩ := mmF_sound hR false r _ _ (.int k _) h
        refine ⟨v', av, ?_, q2, q3⟩
        simp only [List.map_cons, List.foldlM_cons, hv, Sem.run_bind]
        exact q1
      · obtain ⟨v', av, q1, q2, q3⟩ := mmF_sound hR true r _ _ (.int k _) h
        refine ⟨v', av, ?_, q2, q3⟩
        simp only [List.map_cons, List.foldlM_cons, hv, Sem.run_bind]
        exact q1

def isVal : AV → Bool
  | .val _ _ | .cv _ | .clo _ [] => true
  | _ => false

/-- Everything that is no write and no call. -/
def evalF (tt : List (TypeId × Ty)) (an : List (Nat × Ty)) (h : List (Nat × Tree)) (g : Operand → AV) (d : Nat) (op : Op) : Res :=
  match op with
  | .move x => .tot (g x) []
  | .assign x => bif isVal (g x) then .tot (g x) [] else .bad
  | .pick c x y => pickF (g c) (g x) (g y)
  | .alloc T => allocF tt an h d T
  | .box T x => boxF tt h d T (g x)
  | .build T ps => bldF tt g T ps.toList
  | .buildSlice T n ps => bslF tt an h g d T n ps.toList
  | .load T x => loadF tt h T (g x)
  | .nilCheck x => nilF h (g x)
  | .binOp op T x y _ => match g x, g y with
    | .val .bool p, .val .bool q => match lk tt T with
      | some .bool => binF op (.val .bool p) (.val .bool q)
      | _ => .bad
    | .val (.int k) m, .val (.int k') n => binI op k m k' n
    | _, _ => .bad
  | .unOp op _ x => unF op (g x)
  | .convert s d x => convF tt s d (g x)
  | .makeSlice T l c => makeF tt an h d T (g l) (g c)
  | .slice T x lo hi none => slcF tt h T (g x) (lo.map g) (hi.map g)
  | .fieldAddr T x n => fldAF tt h T (g x) n
  | .field T x n => fldF tt h T (g x) n
  | .indexAddr T x i => idxF tt h T (g x) (g i)
  | .extract x n => extF (g x) n
  | .call c => match c.callee, c.args.toList, c.argTypes.toList with
    | .builtin .len, [x], [T] => lenF tt h T (g x)
    | .builtin .max, x :: r, _ => mmF true (g x) (r.map g)
    | .builtin .min, x :: r, _ => mmF false (g x) (r.map g)
    | _, _, _ => .bad
  | _ => .bad

theorem evalF_sound (hR : RelAt C st a.tmps w I rt fp) {an : List (Nat × Ty)} {d : Nat} (h : (evalF E.tt an st.h (opA st.g) d o.op).K Q) : Yields E C st a w I rt fp o Q := by
  unfold evalF at h
  split at h
  · rename_i x ho
    exact .pure (v := a.eval x) (by simp [execOp, ho]) (hR.opA x) h
  · rename_i x ho
    cases hb : isVal (opA st.g x) with
    | false => rw [hb] at h; exact h.elim
    | true => rw [hb] at h; exact .pure (v := a.eval x) (by simp [execOp, ho]) (hR.opA x) h
  · rename_i ho; exact pickF_sound hR ho h
  · rename_i ho; exact allocF_sound hR ho h
  · rename_i ho; exact boxF_sound hR ho h
  · rename_i ho; exact bldF_sound hR ho h
  · rename_i ho; exact bslF_sound hR ho h
  · rename_i ho; exact loadF_sound hR ho h
  · rename_i ho; exact nilF_sound hR ho h
  · rename_i op T x y u ho
    split at h
    · rename_i p q ex ey
      split at h
      · rename_i hT
        refine binF_sound hR ho (fun _ _ _ _ => ?_) (by rw [ex, ey]; exact h)
        exact (E.ok T _ hT).choose_spec.2.2.2.2
      · exact h.elim
    · rename_i ex ey
      refine binF_sound hR ho (fun p q _ hh => ?_) (by rw [ex, ey]; exact h)
      rw [ex] at hh; cases hh.1
    · exact h.elim
  · rename_i ho; exact unF_sound hR ho h
  · rename_i ho; exact convF_sound hR ho h
  · rename_i ho; exact makeF_sound hR ho h
  · rename_i ho; exact slcF_sound hR ho h
  · rename_i ho; exact fldAF_sound hR ho h
  · rename_i ho; exact fldF_sound hR ho h
  · rename_i ho; exact idxF_sound hR ho h
  · rename_i ho; exact extF_sound hR ho h
  · rename_i c ho
    obtain ⟨callee, args, argTypes⟩ := c
    simp only at h
    split at h
    · rename_i x T e1 e2
      have e1' : args = #[x] := by cases args; simp_all
      have e2' : argTypes = #[T] := by cases argTypes; simp_all
      subst e1'; subst e2'
      exact lenF_sound hR ho h
    · rename_i x r e1
      have e1' : args = (x :: r).toArray := by cases args; simp_all
      obtain ⟨v', av, q1, q2, q3⟩ := mmF_sound (E := E) hR true r _ _ (hR.opA x) h
      refine .pure (v := v') ?_ q2 q3
      simp only [execOp, ho, resolve, invoke, builtin, Sem.run_bind, Sem.run_pure, Result.andThen_ok, e1', Builtin.max_]
      simp only [List.map_toArray, List.map_cons, q1]
      rfl
    · rename_i x r e1
      have e1' : args = (x :: r).toArray := by cases args; simp_all
      obtain ⟨v', av, q1, q2, q3⟩ := mmF_sound (E := E) hR false r _ _ (hR.opA x) h
      refine .pure (v := v') ?_ q2 q3
      simp only [execOp, ho, resolve, invoke, builtin, Sem.run_bind, Sem.run_pure, Result.andThen_ok, e1', Builtin.min_]
      simp only [List.map_toArray, List.map_cons, q1]
      rfl
    · exact h.elim
  · exact h.elim
end
end Go.Fw
