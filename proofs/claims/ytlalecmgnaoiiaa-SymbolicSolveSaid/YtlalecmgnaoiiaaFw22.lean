/-
  The framework, part 22: from a function's body to its calls.
-/
import Derived.Test.YtlalecmgnaoiiaaFw21
namespace Go.Fw

def argG : Nat → List Arg → List (Nat × AV)
  | _, [] => []
  | k, .v t :: r => (k, .val t.1 t.2) :: argG (k + 1) r
  | k, .m _ _ :: r => (k, .ref k []) :: argG (k + 1) r
  | k, .o _ :: r => (k, .ref k []) :: argG (k + 1) r
def argT : Nat → List Arg → List (Nat × Tree)
  | _, [] => []
  | k, .v _ :: r => argT (k + 1) r
  | k, .m t _ :: r => (k, t) :: argT (k + 1) r
  | k, .o t :: r => (k, t) :: argT (k + 1) r
def argPin : Nat → List Arg → List Nat
  | _, [] => []
  | k, .m _ _ :: r => k :: argPin (k + 1) r
  | k, _ :: r => argPin (k + 1) r

/-- A result of a state: a value, or what stands at a place of the tree under a number. -/
def ResOne (P : Program) (st : St) (t : Tree) : ResultVar → List Nat → Prop
  | .tmp r, ids => match gt st.g r with
    | .val τ x => (⟨τ, x⟩ : Tree) = t ∧ ids = []
    | .cv v => cvC t.1 v.cells.toList = some t.2 ∧ regV t.1 v.cells.toList = v ∧ ids = []
    | .ref id p => ids = [id] ∧ ∃ u, lk st.h id = some u ∧ GetP u.1 u.2 p t.1 t.2
    | _ => False
  | .cell a T, ids => TyF P t.1 T ∧ match gt st.g a with
    | .ref id p => ids = [id] ∧ ∃ u τ, lk st.h id = some u ∧ tyAt u.1 p = some (.optr τ) ∧ GetP u.1 u.2 (p ++ [.deref]) t.1 t.2
    | _ => False

/-- The results of a state. -/
def ResAt (P : Program) (st : St) : List ResultVar → List Tree → List Nat → Prop
  | [], [], ids => ids = []
  | r :: rs, t :: ts, ids => t.1.nob = true ∧ ∃ i1 i2, ids = i1 ++ i2 ∧ ResOne P st t r i1 ∧ ResAt P st rs ts i2
  | _, _, _ => False

/-- What was handed over for writing, at the end. -/
def MutAt (st : St) : Nat → List Arg → Prop
  | _, [] => True
  | k, .m t y :: r => (gt st.g k = .ref k [] ∧ lk st.h k = some ⟨t.1, y⟩ ∧ t.1.nob = true ∧ vtB t.1 = true) ∧ MutAt st (k + 1) r
  | k, _ :: r => MutAt st (k + 1) r

def FnPost (P : Program) (args : List Arg) (rs : List ResultVar) (res : List Tree) (e : Exit) (st : St) : Prop :=
  (e = .normal ∨ e = .ret) ∧ ∃ ids, ResAt P st rs res ids ∧ nodupB (argPin 0 args ++ ids) = true ∧ MutAt st 0 args

section
variable {E : Env}

theorem argH_rel {I B : Nat → Prop} {w : World} : ∀ {k : Nat} {args : List Arg} {vs : List Value} {fs : List (List Nat)}, all3 (ArgH I B w) args vs fs → ∃ (rt : Nat → List Value) (fp : Nat → List Nat),
    (∀ id t, lk (argT k args) id = some t → k ≤ id ∧ (∃ f, fs[id - k]? = some f ∧ fp id = f) ∧ Rep (md I B) w t.1 (rt id) t.2 (fp id)) ∧
    (∀ j, gt (argG k args) (k + j) = .dead ∨ ∃ v, vs[j]? = some v ∧ AVok (md I B) w (argT k args) rt fp (gt (argG k args) (k + j)) v) ∧ (∀ j, j < k → gt (argG k args) j = .dead)
  | k, [], vs, fs, h => ⟨fun _ => [], fun _ => [], (fun id t h => by cases h), fun j => .inl rfl, fun j _ => rfl⟩
  | k, a :: args, [], fs, h => h.elim
  | k, a :: args, v :: vs, [], h => h.elim
  | k, a :: args, v :: vs, f :: fs, h => by
      obtain ⟨h1, h2⟩ := h
      obtain ⟨rt, fp, i1, i2, i3⟩ := argH_rel (k := k + 1) h2
      have i1' : ∀ id t, lk (argT (k + 1) args) id = some t → k ≤ id ∧ (∃ f', (f :: fs)[id - k]? = some f' ∧ fp id = f') ∧ Rep (md I B) w t.1 (rt id) t.2 (fp id) := fun id t ht => by
        obtain ⟨q1, ⟨f', q2, q3⟩, q4⟩ := i1 id t ht
        exact ⟨by omega, ⟨f', by rw [show id - k = (id - (k + 1)) + 1 by omega, List.getElem?_cons_succ]; exact q2, q3⟩, q4⟩
      have own : ∀ (t : Tree) (cs : List Value), v = regV t.1 cs → Rep (md I B) w t.1 cs t.2 f → argT k (a :: args) = (k, t) :: argT (k + 1) args → argG k (a :: args) = (k, .ref k []) :: argG (k + 1) args → _ := fun t cs hv hr e1 e2 => by
        refine (⟨fun i => if i = k then cs else rt i, fun i => if i = k then f else fp i, ?_, ?_, ?_⟩ : ∃ (rt : Nat → List Value) (fp : Nat → List Nat),
          (∀ id t, lk (argT k (a :: args)) id = some t → k ≤ id ∧ (∃ f', (f :: fs)[id - k]? = some f' ∧ fp id = f') ∧ Rep (md I B) w t.1 (rt id) t.2 (fp id)) ∧
          (∀ j, gt (argG k (a :: args)) (k + j) = .dead ∨ ∃ v', (v :: vs)[j]? = some v' ∧ AVok (md I B) w (argT k (a :: args)) rt fp (gt (argG k (a :: args)) (k + j)) v') ∧ (∀ j, j < k → gt (argG k (a :: args)) j = .dead))
        · intro id t' ht
          rw [e1, lk_cons] at ht
          split at ht
          · rename_i e
            subst e
            obtain rfl := Option.some.inj ht
            refine ⟨Nat.le_refl _, ⟨f, by simp, by simp⟩, by simp only [if_true]; exact hr⟩
          · rename_i e
            obtain ⟨q1, q2, q3⟩ := i1' id t' ht
            have e' : ¬ id = k := fun h => e h.symm
            exact ⟨q1, by simp only [if_neg e']; exact q2, by simp only [if_neg e']; exact q3⟩
        · intro j
          rw [e2, gt_cons]
          cases j with
          | zero =>
            right
            refine ⟨v, rfl, ?_⟩
            rw [if_pos (by omega), hv]
            refine .ref (t := t) (loc := none) (by rw [e1, lk_cons, if_pos rfl]) ?_
            simp only [if_true]
            exact Nav.here
          | succ j =>
            rw [if_neg (by omega), show k + (j + 1) = k + 1 + j by omega]
            refine (i2 j).imp id ?_
            rintro ⟨v', q1, q2⟩
            refine ⟨v', by simpa using q1, ?_⟩
            refine q2.monoOn (fun m b hm => ⟨hm, Sm.refl w b⟩) (fun id _ t' ht => ?_)
            obtain ⟨r1, _, r3⟩ := i1 id t' ht
            have e' : ¬ id = k := by omega
            have e'' : ¬ k = id := by omega
            exact ⟨by rw [e1, lk_cons, if_neg e'']; exact ht, by simp only [if_neg e'], by simp only [if_neg e'], r3, fun b _ => Sm.refl w b⟩
        · intro j hj
          rw [e2, gt_cons, if_neg (by omega)]
          exact i3 j (by omega)
      cases a with
      | v t =>
        obtain ⟨rfl, cs, hv, hr⟩ := h1
        refine ⟨rt, fp, i1', fun j => ?_, fun j hj => ?_⟩
        · show gt ((k, _) :: _) _ = _ ∨ _
          rw [gt_cons]
          cases j with
          | zero =>
            right
            refine ⟨v, rfl, ?_⟩
            show AVok _ _ _ _ _ (gt ((k, _) :: _) _) _
            rw [gt_cons, if_pos (by omega), hv]
            exact .val hr
          | succ j =>
            rw [if_neg (by omega), show k + (j + 1) = k + 1 + j by omega]
            refine (i2 j).imp id ?_
            rintro ⟨v', q1, q2⟩
            refine ⟨v', by simpa using q1, ?_⟩
            show AVok _ _ _ _ _ (gt ((k, _) :: _) _) _
            rw [gt_cons, if_neg (by omega)]
            exact q2
        · show gt ((k, _) :: _) _ = _
          rw [gt_cons, if_neg (by omega)]
          exact i3 j (by omega)
      | m t y => obtain ⟨cs, hv, hr⟩ := h1; exact own t cs hv hr rfl rfl
      | o t => obtain ⟨cs, hv, hr⟩ := h1; exact own t cs hv hr rfl rfl

theorem nodup_get {fs : List (List Nat)} (h : fs.flatten.Nodup) : (∀ (i : Nat) f, fs[i]? = some f → f.Nodup) ∧ ∀ (i j : Nat) f g, fs[i]? = some f → fs[j]? = some g → i ≠ j → ∀ b ∈ f, b ∉ g := by
  induction fs with
  | nil => exact ⟨fun i f h => by simp at h, fun i j f g h => by simp at h⟩
  | cons x fs ih =>
    simp only [List.flatten_cons, List.nodup_append] at h
    obtain ⟨h1, h2, h3⟩ := h
    obtain ⟨i1, i2⟩ := ih h2
    refine ⟨fun i f hf => ?_, fun i j f g hf hg hij b hb hb' => ?_⟩
    · cases i with
      | zero => simp only [List.getElem?_cons_zero, Option.some.injEq] at hf; subst hf; exact h1
      | succ i => exact i1 i f (by simpa using hf)
    · cases i with
      | zero =>
        cases j with
        | zero => exact hij rfl
        | succ j =>
          simp only [List.getElem?_cons_zero, Option.some.injEq] at hf; subst hf
          exact h3 b hb b (List.mem_flatten.2 ⟨g, List.mem_of_getElem? (by simpa using hg), hb'⟩) rfl
      | succ i =>
        cases j with
        | zero =>
          simp only [List.getElem?_cons_zero, Option.some.injEq] at hg; subst hg
          exact h3 b hb' b (List.mem_flatten.2 ⟨f, List.mem_of_getElem? (by simpa using hf), hb⟩) rfl
        | succ j => exact i2 i j f g (by simpa using hf) (by simpa using hg) (by omega) b hb hb'

def resG (tm : Array Value) : ResultVar → Sem Value
  | .tmp t => Pure.pure (tm.getD t undef)
  | .cell a t => do loadVar t (← asAddr (tm.getD a undef))

theorem run_results {P : Program} {fn : Func} {rs : List ResultVar} (hr : fn.results = rs.toArray) (tm : Array Value) (w : World) {vs : List Value} (hv : (rs.mapM (resG tm)).run P w = .ok vs w) : (results fn tm).run P w = .ok (retV vs) w := by
  unfold results
  simp only [Sem.run_bind, hr]
  rw [Array.mapM_eq_mapM_toList, Sem.run_map]
  have key : ∀ g : ResultVar → Sem Value, (∀ x, g x = resG tm x) → (rs.mapM g).run P w = .ok vs w := fun g hg => by rw [show g = resG tm from funext hg]; exact hv
  rw [key _ (fun x => by cases x <;> rfl)]
  simp only [Result.andThen_ok, Sem.run_pure]
  congr 1
  match vs with
  | [] => rfl
  | [r] => rfl
  | r :: r' :: l => simp [retV]

theorem ResOne.rep {P : Program} {C : Ctx} {st : St} {tm : Array Value} {w : World} {I : Nat → Prop} {rt : Nat → List Value} {fp : Nat → List Nat} (hR : RelAt C st tm w I rt fp) {t : Tree} (hnob : t.1.nob = true) {r : ResultVar} {ids : List Nat} (h : ResOne P st t r ids) :
    ∃ v hs, (resG tm r).run P w = .ok v w ∧ ResH I w t v hs ∧ (∃ rest, (ids.map fp).flatten.Perm (hs ++ rest)) ∧ ∀ id ∈ ids, ∃ t, lk st.h id = some t := by
  -- what stands at a place
  have place : ∀ (id : Nat) (u : Tree) (p : List Step), lk st.h id = some u → GetP u.1 u.2 p t.1 t.2 → ∃ loc' cs' f' rest', Nav w u.1 none (rt id) p t.1 loc' cs' ∧ Rep (md I C.B) w t.1 cs' t.2 f' ∧ LocOk w loc' cs' t.1.size ∧ (fp id).Perm (f' ++ rest') := by
    intro id u p hu hgp
    obtain ⟨q1, q2, q3⟩ := hR.tree id _ hu
    obtain ⟨loc', cs', f', rest', k1, k2, k3, k4, _⟩ := focus p (τ' := t.1) (y := t.2) q1 (loc := none) (fun _ _ h => by cases h) q2 (fun _ _ h => by cases h) (hR.notM hu) hgp
    exact ⟨loc', cs', f', rest', k1, k2, k3, k4⟩
  cases r with
  | tmp r =>
    have hr := hR.tmp r
    simp only [ResOne] at h
    split at h
    · rename_i τ x e
      rw [e] at hr
      obtain ⟨rfl, rfl⟩ := h
      generalize hv : tm.getD r undef = v at hr
      cases hr with | val rr =>
      exact ⟨_, [], by show (Pure.pure (tm.getD r undef) : Sem Value).run P w = _; rw [hv]; rfl, ⟨_, rfl, rr.nob hnob⟩, ⟨[], by simp⟩, by simp⟩
    · rename_i v e
      rw [e] at hr
      obtain ⟨q1, q2, rfl⟩ := h
      generalize hv : tm.getD r undef = v' at hr
      cases hr
      exact ⟨_, [], by show (Pure.pure (tm.getD r undef) : Sem Value).run P w = _; rw [hv]; rfl, ⟨_, q2.symm, cvC_rep q1⟩, ⟨[], by simp⟩, by simp⟩
    · rename_i id p e
      rw [e] at hr
      obtain ⟨rfl, u, hu, hgp⟩ := h
      generalize hv : tm.getD r undef = v at hr
      cases hr with | ref ht' hn =>
      rw [hu] at ht'; cases ht'
      obtain ⟨loc', cs', f', rest', k1, k2, k3, k4⟩ := place id u p hu hgp
      obtain ⟨rfl, rfl, rfl⟩ := hn.det k1
      refine ⟨_, f', by show (Pure.pure (tm.getD r undef) : Sem Value).run P w = _; rw [hv]; rfl, ⟨_, rfl, k2.nob hnob⟩, ⟨rest', by simpa using k4⟩, fun i hi => ?_⟩
      rw [List.mem_singleton] at hi; subst hi; exact ⟨_, hu⟩
    · exact h.elim
  | cell a T =>
    have hr := hR.tmp a
    simp only [ResOne] at h
    obtain ⟨hT, h⟩ := h
    split at h
    · rename_i id p e
      rw [e] at hr
      obtain ⟨rfl, u, τ, hu, hty, hgp⟩ := h
      generalize hv : tm.getD a undef = v at hr
      cases hr with | ref ht' hn =>
      rw [hu] at ht'; cases ht'
      have := hn.ty
      rw [hty] at this; cases this
      obtain ⟨b, o, ds, rfl, d1, d2⟩ := navOptr (hR.tree id _ hu).1 hn
      have hn2 := hn.append (Nav.deref1 d1 d2)
      obtain ⟨loc', cs', f', rest', k1, k2, k3, k4⟩ := place id u _ hu hgp
      obtain ⟨e1, e2, e3⟩ := hn2.det k1
      subst e2; subst e3
      subst e1
      have hat := (k3 b o rfl).1
      refine ⟨regV t.1 ds, f', ?_, ⟨_, rfl, k2.nob hnob⟩, ⟨rest', by simpa using k4⟩, fun i hi => ?_⟩
      · show (do loadVar T (← asAddr (tm.getD a undef)) : Sem Value).run P w = _
        rw [hv]
        simp only [regV, List.headD, asAddr, Sem.run_bind, Sem.run_pure, Result.andThen_ok]
        exact run_loadVar hT hat k2.len
      · rw [List.mem_singleton] at hi; subst hi; exact ⟨_, hu⟩
    · exact h.elim

theorem ResAt.rep {P : Program} {C : Ctx} {st : St} {tm : Array Value} {w w0 : World} {I : Nat → Prop} {rt : Nat → List Value} {fp : Nat → List Nat} (hR : RelAt C st tm w I rt fp) : ∀ {rs : List ResultVar} {res : List Tree} {ids : List Nat}, ResAt P st rs res ids →
    ∃ vs hs, (rs.mapM (resG tm)).run P w = .ok vs w ∧ all3 (ResH I w) res vs hs ∧ (∃ rest, (ids.map fp).flatten.Perm (hs.flatten ++ rest)) ∧ ∀ id ∈ ids, ∃ t, lk st.h id = some t
  | [], [], ids, h => by obtain rfl : ids = [] := h; exact ⟨[], [], rfl, trivial, ⟨[], .refl _⟩, by simp⟩
  | [], t :: ts, ids, h => h.elim
  | r :: rs, [], ids, h => h.elim
  | r :: rs, t :: ts, ids, h => by
      obtain ⟨hnob, i1, i2, rfl, h1, h2⟩ := h
      obtain ⟨v, f, a1, a2, ⟨rest1, a3⟩, a4⟩ := h1.rep hR hnob
      obtain ⟨vs, hs, b1, b2, ⟨rest2, b3⟩, b4⟩ := ResAt.rep (w0 := w0) hR h2
      refine ⟨v :: vs, f :: hs, ?_, ⟨a2, b2⟩, ⟨rest1 ++ rest2, ?_⟩, fun i hi => ?_⟩
      · simp only [List.mapM_cons, Sem.run_bind, a1, Sem.run_pure, Result.andThen_ok, b1]
      · simp only [List.map_append, List.flatten_append, List.flatten_cons]
        refine (a3.append b3).trans ?_
        rw [List.append_assoc, List.append_assoc]
        refine List.Perm.append_left f ?_
        rw [← List.append_assoc, ← List.append_assoc]
        exact List.Perm.append_right rest2 List.perm_append_comm
      · rcases List.mem_append.1 hi with hi | hi
        · exact a4 i hi
        · exact b4 i hi

theorem argPin_ge : ∀ {k : Nat} {args : List Arg}, ∀ j ∈ argPin k args, k ≤ j
  | k, [], j, h => by cases h
  | k, a :: args, j, h => by
      have ih := argPin_ge (k := k + 1) (args := args)
      cases a with
      | m t y =>
        rcases List.mem_cons.1 h with rfl | h
        · exact Nat.le_refl _
        · have := ih j h; omega
      | v t => have := ih j h; omega
      | o t => have := ih j h; omega

theorem MutAt.rep {C : Ctx} {st : St} {tm : Array Value} {w : World} {I : Nat → Prop} {rt : Nat → List Value} {fp : Nat → List Nat} (hR : RelAt C st tm w I rt fp) {B : Nat → Prop} : ∀ {k : Nat} {args : List Arg} {vs : List Value}, MutAt st k args → vs.length = args.length →
    (∀ j, j ∈ argPin k args → ∀ v, vs[j - k]? = some v → tm.getD j undef = v) → ∃ gs, all3 (ArgR I B w) args vs gs ∧ gs.flatten = ((argPin k args).map fp).flatten ∧ ∀ id ∈ argPin k args, k ≤ id ∧ ∃ t, lk st.h id = some t
  | k, [], vs, h, hl, hp => by cases vs with
    | nil => exact ⟨[], trivial, rfl, by simp [argPin]⟩
    | cons => cases hl
  | k, a :: args, [], h, hl, hp => by cases hl
  | k, a :: args, v :: vs, h, hl, hp => by
      have more : MutAt st (k + 1) args → (∀ j, j ∈ argPin (k + 1) args → j ∈ argPin k (a :: args)) → ∃ gs, all3 (ArgR I B w) args vs gs ∧ gs.flatten = ((argPin (k + 1) args).map fp).flatten ∧ ∀ id ∈ argPin (k + 1) args, k + 1 ≤ id ∧ ∃ t, lk st.h id = some t := fun h hsub => by
        have hge := argPin_ge (k := k + 1) (args := args)
        exact MutAt.rep hR h (by simpa using hl) (fun j hj v' hv' => hp j (hsub j hj) v' (by
          have := hge j hj
          rw [show j - k = (j - (k + 1)) + 1 by omega, List.getElem?_cons_succ]; exact hv'))
      cases a with
      | v t =>
        obtain ⟨gs, h1, h2, h3⟩ := more h (fun j hj => hj)
        exact ⟨[] :: gs, ⟨rfl, h1⟩, by simpa [argPin] using h2, fun id hid => ⟨by have := (h3 id hid).1; omega, (h3 id hid).2⟩⟩
      | o t =>
        obtain ⟨gs, h1, h2, h3⟩ := more h (fun j hj => hj)
        exact ⟨[] :: gs, ⟨rfl, h1⟩, by simpa [argPin] using h2, fun id hid => ⟨by have := (h3 id hid).1; omega, (h3 id hid).2⟩⟩
      | m t y =>
        obtain ⟨⟨k1, k2, k3, k4⟩, h⟩ := h
        obtain ⟨gs, h1, h2, h3⟩ := more h (fun j hj => List.mem_cons_of_mem _ hj)
        have hk := hR.tmp k
        rw [k1] at hk
        have hv : tm.getD k undef = v := hp k (by simp [argPin]) v (by simp)
        rw [hv] at hk
        obtain ⟨hr, _⟩ := hR.tree k _ k2
        refine ⟨fp k :: gs, ⟨?_, h1⟩, by simp only [argPin, List.map_cons, List.flatten_cons, h2], fun id hid => ?_⟩
        · cases hk with | ref ht hn =>
          rw [k2] at ht; cases ht
          obtain ⟨rfl, rfl, rfl⟩ := Nav.nil_iff.1 hn
          exact ⟨rt k, rfl, hr.nob k3⟩
        · rcases List.mem_cons.1 hid with rfl | hid
          · exact ⟨Nat.le_refl _, _, k2⟩
          · exact ⟨by have := (h3 id hid).1; omega, (h3 id hid).2⟩

theorem CallOk.of_body {f : FuncId} {fn : Func} {c : Code} {args : List Arg} {rs : List ResultVar} {res : List Tree} (hf : E.P.funcs[f]? = some fn) (hb : fn.body = some c) (hres : fn.results = rs.toArray) (hn : args.length ≤ fn.ntmps)
    (h : ∀ C : Ctx, C.n = fn.ntmps → C.pin = argPin 0 args → (∀ b, C.I0 b ∨ C.B b → b < C.w0.heap.size ∧ ¬ C.F0 b) → J E C c ⟨argG 0 args, argT 0 args⟩ (FnPost E.P args rs res)) : CallOk E f args res := by
  intro w I B vs fs hib hargs hnd hbl
  obtain ⟨hvl, hfl⟩ := all3q_len hargs
  obtain ⟨rt, fp, a1, a2, a3⟩ := argH_rel (k := 0) hargs
  let C : Ctx := { I0 := I, B := B, F0 := fun b => b ∈ fs.flatten, w0 := w, n := fn.ntmps, pin := argPin 0 args, vs := fun k => vs.getD k undef }
  have htm : ∀ k, (vs.toArray ++ Array.replicate (fn.ntmps - vs.toArray.size) undef).getD k undef = vs.getD k undef := by
    intro k
    rw [Array.getD_eq_getD_getElem?, List.getD_eq_getElem?_getD]
    rcases Nat.lt_or_ge k vs.length with hk | hk
    · rw [Array.getElem?_append, if_pos (by simpa using hk)]; simp
    · rw [Array.getElem?_append, if_neg (by simp; omega), List.getElem?_eq_none hk, Array.getElem?_replicate]
      split <;> rfl
  obtain ⟨n1, n2⟩ := nodup_get hnd
  have hR : RelAt C ⟨argG 0 args, argT 0 args⟩ (vs.toArray ++ Array.replicate (fn.ntmps - vs.toArray.size) undef) w I rt fp := by
    refine { n := ?_, i0 := fun _ h => h, i1 := fun _ h => .inl h, ib := hib, tree := ?_, dis := ?_, tmp := ?_, frame := fun _ _ _ => rfl, size := Nat.le_refl _, os := rfl, tape := rfl, output := rfl, pin := fun k _ => htm k }
    · simp only [Array.size_append, List.size_toArray, Array.size_replicate]; show _ = fn.ntmps; omega
    · intro id t ht
      obtain ⟨_, ⟨f, q1, q2⟩, q3⟩ := a1 id t ht
      rw [Nat.sub_zero] at q1
      refine ⟨q3, by rw [q2]; exact n1 id f q1, fun b hb => ?_⟩
      rw [q2] at hb
      have hm : b ∈ fs.flatten := List.mem_flatten.2 ⟨f, List.mem_of_getElem? q1, hb⟩
      obtain ⟨r1, r2, r3⟩ := hbl b hm
      exact ⟨r1, r2, r3, .inr hm⟩
    · intro i j t u hi hj hij b hb hb'
      obtain ⟨_, ⟨f, q1, q2⟩, _⟩ := a1 i t hi
      obtain ⟨_, ⟨g, r1, r2⟩, _⟩ := a1 j u hj
      rw [Nat.sub_zero] at q1 r1
      rw [q2] at hb; rw [r2] at hb'
      exact n2 i j f g q1 r1 hij b hb hb'
    · intro k
      show AVok _ _ _ _ _ (gt (argG 0 args) k) _
      rw [htm]
      rcases a2 k with h | ⟨v, h1, h2⟩
      · rw [Nat.zero_add] at h; rw [h]; exact .dead _
      · rw [Nat.zero_add] at h2
        rw [List.getD_eq_getElem?_getD, h1]; exact h2
  refine calls_of_wp hf hb (wp_mono (h C rfl rfl (fun b hb => ⟨hib b hb, fun hm => hb.elim (hbl b hm).1 (hbl b hm).2.1⟩) _ w ⟨I, rt, fp, hR⟩ rfl) ?_)
  rintro e a' w' ⟨st', ⟨he, ids, hr, hnb, hm⟩, ⟨I', rt', fp', hR'⟩, hd⟩
  obtain ⟨rvs, hs, s0, s1, ⟨rest, s2⟩, s3⟩ := ResAt.rep (w0 := w) hR' hr
  obtain ⟨gs, g1, g2, g3⟩ := MutAt.rep hR' (B := B) (vs := vs) hm hvl (fun j hj v hv => by
    rw [Nat.sub_zero] at hv
    rw [hR'.pin j hj]
    show vs.getD j undef = v
    rw [List.getD_eq_getElem?_getD, hv]; rfl)
  have hnb := nodupB.ok hnb
  have hthere : ∀ id ∈ argPin 0 args ++ ids, ∃ t, lk st'.h id = some t := fun id hid => by
    rcases List.mem_append.1 hid with h | h
    · exact (g3 id h).2
    · exact s3 id h
  have hndf := nodup_fps hR' hthere hnb
  rw [List.map_append, List.flatten_append, ← g2] at hndf
  have hndf : (gs.flatten ++ hs.flatten).Nodup := by
    have := (List.Perm.append_left gs.flatten s2).nodup_iff.1 hndf
    rw [← List.append_assoc] at this
    exact (List.nodup_append.1 this).1
  have hbf : ∀ b ∈ gs.flatten ++ hs.flatten, ∃ id t, lk st'.h id = some t ∧ b ∈ fp' id := fun b hb => by
    have hb : b ∈ ((argPin 0 args ++ ids).map fp').flatten := by
      rw [List.map_append, List.flatten_append, ← g2]
      rcases List.mem_append.1 hb with h | h
      · exact List.mem_append_left _ h
      · exact List.mem_append_right _ (s2.mem_iff.2 (List.mem_append_left _ h))
    obtain ⟨l, h1, h2⟩ := List.mem_flatten.1 hb
    obtain ⟨id, hid, rfl⟩ := List.mem_map.1 h1
    obtain ⟨t, ht⟩ := hthere id hid
    exact ⟨id, t, ht, h2⟩
  have post : ∃ v, (results fn a'.tmps).run E.P w' = .ok v w' ∧ ∃ I' gs hs rv, Ending.returned v = .returned (retV rv) ∧ PostOk I B w fs args vs res I' gs hs rv w' :=
    ⟨_, run_results hres a'.tmps w' s0, I', gs, hs, _, rfl, g1, s1, hndf, (fun b hb => by
        obtain ⟨id, t, ht, hbi⟩ := hbf b hb
        obtain ⟨q1, q2, q3, q4⟩ := (hR'.tree id t ht).2.2 b hbi
        exact ⟨q1, q2, q3, q4⟩), hR'.i0, (fun b hb => by
        rcases hR'.i1 b hb with h | h | h
        · exact .inl h
        · exact .inr ⟨hR'.ib b (.inl hb), .inl h⟩
        · exact .inr ⟨hR'.ib b (.inl hb), .inr h⟩), hR'.size, hR'.os, hR'.tape, hR'.output, fun b hb hbn => hR'.frame b hb hbn⟩
  rcases he with rfl | rfl
  · exact ⟨hd, post⟩
  · exact ⟨hd, post⟩
end
end Go.Fw
