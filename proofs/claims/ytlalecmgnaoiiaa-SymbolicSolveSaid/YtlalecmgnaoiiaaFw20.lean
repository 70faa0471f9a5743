/-
  The framework, part 20: calls.
-/
import Derived.Test.YtlalecmgnaoiiaaFw19
namespace Go.Fw

def all3 {α β γ : Type} (R : α → β → γ → Prop) : List α → List β → List γ → Prop
  | [], [], [] => True
  | a :: as, b :: bs, c :: cs => R a b c ∧ all3 R as bs cs
  | _, _, _ => False

/-- An argument: a value; a tree that is handed over for writing, with what it holds behind the call; a tree that is handed over for good. -/
inductive Arg where
  | v (t : Tree)
  | m (t : Tree) (y : t.1.den)
  | o (t : Tree)

def ArgH (I B : Nat → Prop) (w : World) : Arg → Value → List Nat → Prop
  | .v t, v, f => f = [] ∧ ∃ cs, v = regV t.1 cs ∧ Rep (md I B) w t.1 cs t.2 []
  | .m t _, v, f => ∃ cs, v = regV t.1 cs ∧ Rep (md I B) w t.1 cs t.2 f
  | .o t, v, f => ∃ cs, v = regV t.1 cs ∧ Rep (md I B) w t.1 cs t.2 f

def ArgR (I B : Nat → Prop) (w : World) : Arg → Value → List Nat → Prop
  | .m t y, v, g => ∃ cs, v = regV t.1 cs ∧ Rep (md I B) w t.1 cs y g
  | _, _, g => g = []

def ResH (I : Nat → Prop) (w : World) (t : Tree) (v : Value) (h : List Nat) : Prop := ∃ cs, v = regV t.1 cs ∧ Rep (md I (fun _ => False)) w t.1 cs t.2 h

def retV : List Value → Value
  | [v] => v
  | vs => .tuple vs.toArray

structure PostOk (I B : Nat → Prop) (w : World) (fs : List (List Nat)) (args : List Arg) (vs : List Value) (res : List Tree) (I' : Nat → Prop) (gs hs : List (List Nat)) (rv : List Value) (w' : World) : Prop where
  args : all3 (ArgR I' B w') args vs gs
  res : all3 (ResH I' w') res rv hs
  nd : (gs.flatten ++ hs.flatten).Nodup
  bl : ∀ b ∈ gs.flatten ++ hs.flatten, ¬ I' b ∧ ¬ B b ∧ b < w'.heap.size ∧ (w.heap.size ≤ b ∨ b ∈ fs.flatten)
  i : ∀ b, I b → I' b
  i2 : ∀ b, I' b → I b ∨ (b < w'.heap.size ∧ (w.heap.size ≤ b ∨ b ∈ fs.flatten))
  size : w.heap.size ≤ w'.heap.size
  os : w'.os = w.os
  tape : w'.tape = w.tape
  output : w'.output = w.output
  heap : ∀ b, b < w.heap.size → b ∉ fs.flatten → w'.heap[b]? = w.heap[b]?

/-- What a call of function f with these arguments gives. -/
def CallOk (E : Env) (f : FuncId) (args : List Arg) (res : List Tree) : Prop :=
  ∀ (w : World) (I B : Nat → Prop) (vs : List Value) (fs : List (List Nat)), (∀ b, I b ∨ B b → b < w.heap.size) → all3 (ArgH I B w) args vs fs → fs.flatten.Nodup →
    (∀ b ∈ fs.flatten, ¬ I b ∧ ¬ B b ∧ b < w.heap.size) →
    Calls E.P f vs.toArray w (fun e w' => ∃ I' gs hs rv, e = .returned (retV rv) ∧ PostOk I B w fs args vs res I' gs hs rv w')

/-- A type that says nothing on what is borrowed. -/
def Ty.nob : Ty → Bool
  | .slc .bor _ | .ptr .bor _ => false
  | .slc .imm t | .ptr .imm t | .osl t | .optr t | .st t => t.nob
  | .pr a b => a.nob && b.nob
  | _ => true

def vtB : Ty → Bool
  | .pr _ _ | .nil | .blk => false
  | _ => true

theorem regV_inj {τ : Ty} {cs ds : List Value} (hv : vtB τ = true) (h1 : cs.length = τ.size) (h2 : ds.length = τ.size) (h : regV τ cs = regV τ ds) : cs = ds := by
  have one : τ.size = 1 → regV τ cs = cs.headD undef → regV τ ds = ds.headD undef → cs = ds := by
    intro hs e1 e2
    rw [hs] at h1 h2
    obtain ⟨x, rfl⟩ := List.length_eq_one_iff.1 h1
    obtain ⟨y, rfl⟩ := List.length_eq_one_iff.1 h2
    rw [e1, e2] at h
    simpa using h
  cases τ with
  | st t => have h : Value.agg cs.toArray = Value.agg ds.toArray := h; simpa using h
  | pr => cases hv
  | nil => cases hv
  | blk => cases hv
  | _ => exact one rfl rfl rfl

/-- How an abstract value serves as an argument. -/
def ArgAt (h : List (Nat × Tree)) (S : List Nat) : AV → Arg → Prop
  | .val τ x, .v t => PassV τ x t.1 t.2
  | .cv v, .v t => cvC t.1 v.cells.toList = some t.2 ∧ regV t.1 v.cells.toList = v
  | .ref id p, .v t => memN id S = false ∧ ∃ tr τ y, lk h id = some tr ∧ GetP tr.1 tr.2 p τ y ∧ PassV τ y t.1 t.2
  | .ref id [], .m t _ => lk h id = some t ∧ t.1.nob = true ∧ vtB t.1 = true
  | .ref id [], .o t => lk h id = some t
  | _, _ => False

def ArgsAt (h : List (Nat × Tree)) (S : List Nat) : List AV → List Arg → Prop
  | [], [] => True
  | a :: as, b :: bs => ArgAt h S a b ∧ ArgsAt h S as bs
  | _, _ => False

/-- The trees that are handed over. -/
def takenIds : List AV → List Arg → List Nat
  | .ref id [] :: as, .m _ _ :: bs => id :: takenIds as bs
  | .ref id [] :: as, .o _ :: bs => id :: takenIds as bs
  | _ :: as, _ :: bs => takenIds as bs
  | _, _ => []
def keptIds : List AV → List Arg → List Nat
  | .ref id [] :: as, .m _ _ :: bs => id :: keptIds as bs
  | _ :: as, _ :: bs => keptIds as bs
  | _, _ => []
def outTrees : List AV → List Arg → List (Nat × Tree)
  | .ref id [] :: as, .m t y :: bs => (id, ⟨t.1, y⟩) :: outTrees as bs
  | _ :: as, _ :: bs => outTrees as bs
  | _, _ => []

def resId (d : Nat) (single : Bool) (j : Nat) : Nat := bif single then d else 1000 * (d + 1) + j
def resAVs (d : Nat) (single : Bool) : Nat → List Tree → List AV
  | _, [] => []
  | j, t :: r => (bif t.1.pure then .val t.1 t.2 else .ref (resId d single j) []) :: resAVs d single (j + 1) r
def resTrees (d : Nat) (single : Bool) : Nat → List Tree → List (Nat × Tree)
  | _, [] => []
  | j, t :: r => bif t.1.pure then resTrees d single (j + 1) r else (resId d single j, t) :: resTrees d single (j + 1) r
def resAV (d : Nat) : List Tree → AV
  | [t] => bif t.1.pure then .val t.1 t.2 else .ref d []
  | l => .tup (resAVs d false 0 l)
def isSingle : List Tree → Bool
  | [_] => true
  | _ => false

def nodupB : List Nat → Bool
  | [] => true
  | a :: r => !(memN a r) && nodupB r
theorem nodupB.ok : ∀ {l : List Nat}, nodupB l = true → l.Nodup
  | [], _ => List.nodup_nil
  | a :: r, h => by
      simp only [nodupB, Bool.and_eq_true, Bool.not_eq_true'] at h
      exact List.nodup_cons.2 ⟨(fun hm => by rw [memN_iff.2 hm] at h; cases h.1), nodupB.ok h.2⟩

/-- The state behind a call. -/
def callSt (d : Nat) (st : St) (avs : List AV) (args : List Arg) (res : List Tree) : St :=
  ⟨(d, resAV d res) :: kill (takenIds avs args) (kp0 (keptIds avs args)) st.g, (outTrees avs args ++ resTrees d (isSingle res) 0 res) ++ del (takenIds avs args) st.h⟩

theorem Rep.nob {I B B' : Nat → Prop} {w : World} : ∀ {τ : Ty} {cs : List Value} {x : τ.den} {f : List Nat}, τ.nob = true → Rep (md I B) w τ cs x f → Rep (md I B') w τ cs x f := by
  intro τ
  induction τ with
  | slc m t ih =>
    intro cs x f h hr
    cases m
    · obtain ⟨q0, ad, cap, q1, q2, q3, q4⟩ := hr
      refine ⟨q0, ad, cap, q1, q2, q3, q4.imp id ?_⟩
      rintro ⟨b, o, ha, hb, hx⟩
      refine ⟨b, o, ha, hb, fun i y hy => ?_⟩
      obtain ⟨ds, d1, d2, d3⟩ := hx i y hy
      exact ⟨ds, d1, d2, ih (by simpa only [Ty.nob] using h) d3⟩
    · simp only [Ty.nob] at h; cases h
  | ptr m t ih =>
    intro cs x f h hr
    cases m
    · obtain ⟨q0, q1⟩ := hr
      refine ⟨q0, ?_⟩
      cases x with
      | none => exact q1
      | some y =>
        obtain ⟨b, o, ds, r1, r2, r3, r4, r5⟩ := q1
        exact ⟨b, o, ds, r1, r2, r3, r4, ih (by simpa only [Ty.nob] using h) r5⟩
    · simp only [Ty.nob] at h; cases h
  | osl t ih =>
    intro cs x f h hr
    obtain ⟨ad, cap, q1, q2⟩ := hr
    refine ⟨ad, cap, q1, q2.imp id ?_⟩
    rintro ⟨b, o, fps, r1, r2, r3, r4, r5, r6⟩
    refine ⟨b, o, fps, r1, r2, r3, r4, r5, fun i y g hy hg => ?_⟩
    obtain ⟨ds, d1, d2, d3⟩ := r6 i y g hy hg
    exact ⟨ds, d1, d2, ih (by simpa only [Ty.nob] using h) d3⟩
  | optr t ih =>
    intro cs x f h hr
    obtain ⟨b, o, g, ds, q1, q2, q3, q4, q5, q6⟩ := hr
    exact ⟨b, o, g, ds, q1, q2, q3, q4, q5, ih (by simpa only [Ty.nob] using h) q6⟩
  | st t ih => intro cs x f h hr; exact ih (by simpa only [Ty.nob] using h) hr
  | pr a b iha ihb =>
    intro cs x f h hr
    simp only [Ty.nob, Bool.and_eq_true] at h
    obtain ⟨f1, f2, q0, q1, q2⟩ := hr
    exact ⟨f1, f2, q0, iha h.1 q1, ihb h.2 q2⟩
  | _ => intro cs x f h hr; exact hr

theorem lk_map {α β : Type} (g : α → β) : ∀ (l : List (Nat × α)) (k : Nat), lk (l.map fun q => (q.1, g q.2)) k = (lk l k).map g
  | [], _ => rfl
  | (k0, v) :: l, k => by
      rw [List.map_cons, lk_cons, lk_cons, lk_map g l k]
      split <;> rfl

abbrev NewT := Tree × List Value × List Nat

/-- The trees behind a call, with their cells and blocks: those that were handed over for writing. -/
def outL (rt : Nat → List Value) : List AV → List Arg → List (List Nat) → List (Nat × NewT)
  | .ref id [] :: as, .m t y :: bs, g :: gs => (id, (⟨t.1, y⟩, rt id, g)) :: outL rt as bs gs
  | _ :: as, _ :: bs, _ :: gs => outL rt as bs gs
  | _, _, _ => []
/-- .. and the results. -/
def resL (d : Nat) (single : Bool) : Nat → List Tree → List (List Value) → List (List Nat) → List (Nat × NewT)
  | j, t :: r, c :: cs, h :: hs => bif t.1.pure then resL d single (j + 1) r cs hs else (resId d single j, (t, c, h)) :: resL d single (j + 1) r cs hs
  | _, _, _, _ => []

theorem outL_map {rt : Nat → List Value} : ∀ {as : List AV} {bs : List Arg} {gs : List (List Nat)}, gs.length = bs.length → (outL rt as bs gs).map (fun q => (q.1, q.2.1)) = outTrees as bs
  | [], bs, gs, _ => by cases bs <;> cases gs <;> rfl
  | a :: as, [], gs, h => by cases gs with
    | nil => cases a <;> first | rfl | (rename_i id p; cases p <;> rfl)
    | cons => cases h
  | a :: as, b :: bs, [], h => by cases h
  | a :: as, b :: bs, g :: gs, h => by
      have ih := outL_map (rt := rt) (as := as) (bs := bs) (gs := gs) (by simpa using h)
      cases a with
      | ref id p => cases p with
        | nil => cases b <;> simp only [outL, outTrees, List.map_cons, ih]
        | cons => cases b <;> simp only [outL, outTrees, ih]
      | _ => cases b <;> simp only [outL, outTrees, ih]

theorem resL_map {d : Nat} {s : Bool} : ∀ {j : Nat} {res : List Tree} {cs : List (List Value)} {hs : List (List Nat)}, cs.length = res.length → hs.length = res.length → (resL d s j res cs hs).map (fun q => (q.1, q.2.1)) = resTrees d s j res
  | j, [], cs, hs, h1, h2 => by cases cs <;> cases hs <;> simp [resL, resTrees]
  | j, t :: r, [], hs, h1, h2 => by cases h1
  | j, t :: r, c :: cs, [], h1, h2 => by cases h2
  | j, t :: r, c :: cs, h :: hs, h1, h2 => by
      have ih := resL_map (d := d) (s := s) (j := j + 1) (res := r) (cs := cs) (hs := hs) (by simpa using h1) (by simpa using h2)
      simp only [resL, resTrees]
      cases t.1.pure
      · simp only [cond_false, List.map_cons, ih]
      · simp only [cond_true, ih]

section
variable {E : Env} {C : Ctx} {st : St} {a : Act} {w w' : World} {I I' B' : Nat → Prop} {rt : Nat → List Value} {fp : Nat → List Nat}

theorem outL_rep (hR : RelAt C st a.tmps w I rt fp) {S : List Nat} : ∀ {xs : List Operand} {args : List Arg} {gs : List (List Nat)}, ArgsAt st.h S (xs.map (opA st.g)) args → all3 (ArgR I' B' w') args (xs.map a.eval) gs →
    ∀ q ∈ outL rt (xs.map (opA st.g)) args gs, Rep (md I' C.B) w' q.2.1.1 q.2.2.1 q.2.1.2 q.2.2.2 ∧ q.2.2.1 = rt q.1 ∧ q.1 ∈ takenIds (xs.map (opA st.g)) args ∧ ∃ t, lk st.h q.1 = some t ∧ q.2.1.1 = t.1
  | [], args, gs, h1, h2, q, hq => by cases args <;> cases gs <;> cases hq
  | x :: xs, [], gs, h1, h2, q, hq => h1.elim
  | x :: xs, b :: bs, [], h1, h2, q, hq => h2.elim
  | x :: xs, b :: bs, g :: gs, h1, h2, q, hq => by
      obtain ⟨h1a, h1b⟩ := h1
      obtain ⟨h2a, h2b⟩ := h2
      have ih := outL_rep hR (S := S) (xs := xs) (args := bs) (gs := gs) h1b h2b
      have hx := hR.opA x
      simp only [List.map_cons] at hq ⊢
      generalize hav : opA st.g x = av at *
      have rest : q ∈ outL rt (xs.map (opA st.g)) bs gs → Rep (md I' C.B) w' q.2.1.1 q.2.2.1 q.2.1.2 q.2.2.2 ∧ q.2.2.1 = rt q.1 ∧ q.1 ∈ takenIds (av :: xs.map (opA st.g)) (b :: bs) ∧ ∃ t, lk st.h q.1 = some t ∧ q.2.1.1 = t.1 := by
        intro hq
        obtain ⟨q1, q2, q3, q4⟩ := ih q hq
        refine ⟨q1, q2, ?_, q4⟩
        cases av with
        | ref id p => cases p <;> cases b <;> simp only [takenIds] <;> first | exact List.mem_cons_of_mem _ q3 | exact q3
        | _ => cases b <;> exact q3
      cases av with
      | ref id p =>
        cases p with
        | cons s p => exact rest (by cases b <;> exact hq)
        | nil =>
          cases b with
          | v t => exact rest hq
          | o t => exact rest hq
          | m t y =>
            simp only [outL, List.mem_cons] at hq
            rcases hq with rfl | hq
            · obtain ⟨k1, k2, k3⟩ := h1a
              obtain ⟨cs, e, hr⟩ := h2a
              generalize hv : a.eval x = v at hx e
              cases hx with | ref ht hn =>
              rw [k1] at ht; cases ht
              obtain ⟨rfl, rfl, rfl⟩ := Nav.nil_iff.1 hn
              have := regV_inj k3 (hR.tree id _ k1).1.len hr.len e
              subst this
              exact ⟨hr.nob k2, rfl, by simp [takenIds], t, k1, rfl⟩
            · exact rest hq
      | _ => exact rest (by cases b <;> exact hq)

theorem outL_fps {S : List Nat} : ∀ {as : List AV} {args : List Arg} {vs : List Value} {gs : List (List Nat)}, ArgsAt st.h S as args → all3 (ArgR I' B' w') args vs gs → ((outL rt as args gs).map (fun q => q.2.2.2)).flatten = gs.flatten
  | [], [], vs, gs, h1, h2 => by cases vs <;> cases gs <;> first | rfl | exact h2.elim
  | [], b :: bs, vs, gs, h1, h2 => h1.elim
  | a :: as, [], vs, gs, h1, h2 => by cases a <;> exact h1.elim
  | a :: as, b :: bs, [], gs, h1, h2 => h2.elim
  | a :: as, b :: bs, v :: vs, [], h1, h2 => h2.elim
  | a :: as, b :: bs, v :: vs, g :: gs, h1, h2 => by
      have ih := outL_fps (as := as) h1.2 h2.2
      have h1a := h1.1
      have h2a := h2.1
      rw [List.flatten_cons, ← ih]
      cases b with
      | m t y =>
        cases a with
        | ref id p => cases p with
          | nil => simp only [outL, List.map_cons, List.flatten_cons]
          | cons => exact h1a.elim
        | _ => exact h1a.elim
      | v t =>
        have : g = [] := h2a
        subst this
        cases a with
        | ref id p => cases p <;> simp only [outL, List.nil_append]
        | _ => simp only [outL, List.nil_append]
      | o t =>
        have : g = [] := h2a
        subst this
        cases a with
        | ref id p => cases p <;> simp only [outL, List.nil_append]
        | _ => simp only [outL, List.nil_append]

theorem resH_cs {I : Nat → Prop} : ∀ {res : List Tree} {rv : List Value} {hs : List (List Nat)}, all3 (ResH I w) res rv hs → ∃ css : List (List Value), css.length = res.length ∧ hs.length = res.length ∧ rv.length = res.length ∧
    ∀ (i : Nat) (t : Tree) (c : List Value) (h : List Nat) (v : Value), res[i]? = some t → css[i]? = some c → hs[i]? = some h → rv[i]? = some v → v = regV t.1 c ∧ Rep (md I (fun _ => False)) w t.1 c t.2 h
  | [], rv, hs, h => by cases rv <;> cases hs <;> first | exact ⟨[], rfl, rfl, rfl, fun i t c h v h1 => by simp at h1⟩ | exact h.elim
  | t :: r, [], hs, h => h.elim
  | t :: r, v :: rv, [], h => h.elim
  | t :: r, v :: rv, f :: hs, h => by
      obtain ⟨⟨c, e, hr⟩, h2⟩ := h
      obtain ⟨css, l1, l2, l3, hh⟩ := resH_cs h2
      refine ⟨c :: css, by simp [l1], by simp [l2], by simp [l3], fun i t' c' h' v' e1 e2 e3 e4 => ?_⟩
      cases i with
      | zero => simp only [List.getElem?_cons_zero, Option.some.injEq] at e1 e2 e3 e4; subst e1; subst e2; subst e3; subst e4; exact ⟨e, hr⟩
      | succ i => exact hh i t' c' h' v' (by simpa using e1) (by simpa using e2) (by simpa using e3) (by simpa using e4)

theorem resL_get {d : Nat} {s : Bool} : ∀ {j : Nat} {res : List Tree} {cs : List (List Value)} {hs : List (List Nat)}, cs.length = res.length → hs.length = res.length → ∀ q ∈ resL d s j res cs hs, ∃ i : Nat, res[i]? = some q.2.1 ∧ cs[i]? = some q.2.2.1 ∧ hs[i]? = some q.2.2.2
  | j, [], cs, hs, h1, h2, q, hq => by cases cs <;> cases hs <;> simp [resL] at hq
  | j, t :: r, [], hs, h1, h2, q, hq => by cases h1
  | j, t :: r, c :: cs, [], h1, h2, q, hq => by cases h2
  | j, t :: r, c :: cs, h :: hs, h1, h2, q, hq => by
      simp only [resL] at hq
      have more : q ∈ resL d s (j + 1) r cs hs → ∃ i, (t :: r)[i]? = some q.2.1 ∧ (c :: cs)[i]? = some q.2.2.1 ∧ (h :: hs)[i]? = some q.2.2.2 := fun hq => by
        obtain ⟨i, e1, e2, e3⟩ := resL_get (by simpa using h1) (by simpa using h2) q hq
        exact ⟨i + 1, by rw [List.getElem?_cons_succ]; exact e1, by rw [List.getElem?_cons_succ]; exact e2, by rw [List.getElem?_cons_succ]; exact e3⟩
      cases hp : t.1.pure
      · rw [hp] at hq
        simp only [cond_false, List.mem_cons] at hq
        rcases hq with rfl | hq
        · exact ⟨0, rfl, rfl, rfl⟩
        · exact more hq
      · rw [hp] at hq; exact more hq

theorem resL_fps {d : Nat} {s : Bool} : ∀ {j : Nat} {res : List Tree} {cs : List (List Value)} {hs : List (List Nat)}, ((resL d s j res cs hs).map (fun q => q.2.2.2)).flatten.Sublist hs.flatten
  | j, [], cs, hs => by simp [resL]
  | j, t :: r, [], hs => by simp [resL]
  | j, t :: r, c :: cs, [] => by simp [resL]
  | j, t :: r, c :: cs, h :: hs => by
      have ih := resL_fps (d := d) (s := s) (j := j + 1) (res := r) (cs := cs) (hs := hs)
      simp only [resL]
      cases t.1.pure
      · simp only [cond_false, List.map_cons, List.flatten_cons]
        exact List.Sublist.append (List.Sublist.refl h) ih
      · simp only [cond_true, List.flatten_cons]
        exact ih.trans (List.sublist_append_right _ _)

/-- The arguments on the machine: what the callee is asked. -/
theorem argsH (hR : RelAt C st a.tmps w I rt fp) {S : List Nat} (hB : ∀ b, C.B b → B' b) (hB2 : ∀ id t, lk st.h id = some t → memN id S = false → ∀ b ∈ fp id, B' b) (hb3 : ∀ b, B' b → C.B b ∨ ∃ id t, lk st.h id = some t ∧ memN id S = false ∧ b ∈ fp id) :
    ∀ {xs : List Operand} {args : List Arg}, ArgsAt st.h S (xs.map (opA st.g)) args → ∃ fs, all3 (ArgH I B' w) args (xs.map a.eval) fs ∧ fs.flatten = ((takenIds (xs.map (opA st.g)) args).map fp).flatten
  | [], args, h => by cases args with
    | nil => exact ⟨[], trivial, rfl⟩
    | cons => exact h.elim
  | x :: xs, [], h => h.elim
  | x :: xs, b :: bs, h => by
      obtain ⟨ha, hb⟩ := h
      obtain ⟨fs, h1, h2⟩ := argsH hR hB hB2 hb3 hb
      have hx := hR.opA x
      simp only [List.map_cons]
      generalize hav : opA st.g x = av at *
      generalize hv : a.eval x = v at *
      cases b with
      | v t =>
        have fin : (∃ cs, v = regV t.1 cs ∧ Rep (md I B') w t.1 cs t.2 []) → takenIds (av :: xs.map (opA st.g)) (.v t :: bs) = takenIds (xs.map (opA st.g)) bs → ∃ fs, all3 (ArgH I B' w) (.v t :: bs) (v :: xs.map a.eval) fs ∧ fs.flatten = ((takenIds (av :: xs.map (opA st.g)) (.v t :: bs)).map fp).flatten := by
          intro hh e
          exact ⟨[] :: fs, ⟨⟨rfl, hh⟩, h1⟩, by rw [e]; simpa using h2⟩
        cases av with
        | val τ y =>
          refine fin ?_ rfl
          have ha : PassV τ y t.1 t.2 := ha
          cases hx with | val r =>
          exact ⟨_, ha.st _, ha.rep hB r (by simp)⟩
        | cv u =>
          refine fin ?_ rfl
          obtain ⟨q1, q2⟩ := ha
          cases hx
          exact ⟨_, q2.symm, cvC_rep q1⟩
        | ref id p =>
          refine fin ?_ (by cases p <;> rfl)
          obtain ⟨hS, tr, τ, y, k1, k2, k3⟩ : memN id S = false ∧ ∃ tr τ y, lk st.h id = some tr ∧ GetP tr.1 tr.2 p τ y ∧ PassV τ y t.1 t.2 := by cases p <;> exact ha
          cases hx with | ref ht hn =>
          rw [k1] at ht; cases ht
          obtain ⟨rfl, f, hr, _, hf⟩ := hR.getP k1 k2 hn
          exact ⟨_, k3.st _, k3.rep hB hr (fun b hb => hB2 id _ k1 hS b (hf b hb))⟩
        | _ => exact ha.elim
      | m t y =>
        cases av with
        | ref id p => cases p with
          | nil =>
            obtain ⟨k1, k2, _⟩ := ha
            cases hx with | ref ht hn =>
            rw [k1] at ht; cases ht
            obtain ⟨rfl, rfl, rfl⟩ := Nav.nil_iff.1 hn
            exact ⟨fp id :: fs, ⟨⟨rt id, rfl, (hR.tree id _ k1).1.nob k2⟩, h1⟩, by simp only [takenIds, List.map_cons, List.flatten_cons, h2]⟩
          | cons => exact ha.elim
        | _ => exact ha.elim
      | o t =>
        cases av with
        | ref id p => cases p with
          | nil =>
            have k1 : lk st.h id = some t := ha
            cases hx with | ref ht hn =>
            rw [k1] at ht; cases ht
            obtain ⟨rfl, rfl, rfl⟩ := Nav.nil_iff.1 hn
            refine ⟨fp id :: fs, ⟨⟨rt id, rfl, (hR.tree id _ k1).1.mono (fun m b hm => ⟨?_, Sm.refl w b⟩) (fun b _ => Sm.refl w b)⟩, h1⟩, by simp only [takenIds, List.map_cons, List.flatten_cons, h2]⟩
            cases m
            · exact hm
            · exact hm.imp (fun h => h) (hB b)
          | cons => exact ha.elim
        | _ => exact ha.elim
end
end Go.Fw
