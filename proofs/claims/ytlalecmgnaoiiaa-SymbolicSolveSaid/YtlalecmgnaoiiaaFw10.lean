/-
  The framework, part 10: writes: what is changed, what is forgotten.
-/
import Derived.Test.YtlalecmgnaoiiaaFw9
namespace Go.Fw

def memN (i : Nat) (S : List Nat) : Bool := S.any fun j => Nat.beq j i
theorem memN_iff {i : Nat} {S : List Nat} : memN i S = true ↔ i ∈ S := by
  simp only [memN, List.any_eq_true]
  constructor
  · rintro ⟨j, hj, h⟩; rw [← Nat.eq_of_beq_eq_true h]; exact hj
  · exact fun h => ⟨i, h, Nat.beq_refl i⟩

def AV.uses (S : List Nat) (a : AV) : Bool := a.ids.any fun i => memN i S

/-- What still stands where the places of keep are written: roots, and what those places do not touch. -/
def isRoot (keep : List (Nat × List Step)) : AV → Bool
  | .ref id [] => keep.any fun e => Nat.beq e.1 id
  | .ref id q => keep.any fun e => Nat.beq e.1 id && keepP e.2 q
  | .addr id q => keep.any fun e => Nat.beq e.1 id && keepP e.2 q
  | .view id q _ _ => keep.any fun e => Nat.beq e.1 id && keepP e.2 q
  | _ => false

def kill1 (S : List Nat) (keep : List (Nat × List Step)) (a : AV) : AV := bif a.uses S && !(isRoot keep a) then .dead else a
def kill (S : List Nat) (keep : List (Nat × List Step)) (g : List (Nat × AV)) : List (Nat × AV) := g.map fun q => (q.1, kill1 S keep q.2)
def del (S : List Nat) (h : List (Nat × Tree)) : List (Nat × Tree) := h.filter fun q => !(memN q.1 S)
theorem keepP_nil (q : List Step) : keepP [] q = false := by cases q <;> simp [keepP, hasMem]
def kp0 (l : List Nat) : List (Nat × List Step) := l.map fun i => (i, [])

theorem gt_kill (S : List Nat) (keep : List (Nat × List Step)) : ∀ (g : List (Nat × AV)) (k : Nat), gt (kill S keep g) k = kill1 S keep (gt g k)
  | [], k => by simp [kill, gt, lk, kill1, AV.uses, AV.ids]
  | (k0, a) :: g, k => by
      show gt ((k0, kill1 S keep a) :: kill S keep g) k = _
      rw [gt_cons, gt_cons]
      split
      · rfl
      · exact gt_kill S keep g k

theorem lk_del (S : List Nat) : ∀ (h : List (Nat × Tree)) (k : Nat), lk (del S h) k = if k ∈ S then none else lk h k
  | [], k => by simp [del, lk]
  | (k0, t) :: h, k => by
      have ih := lk_del S h k
      simp only [del] at ih ⊢
      rw [List.filter_cons]
      cases hm : memN k0 S with
      | true =>
        have : k0 ∈ S := memN_iff.1 hm
        simp only [Bool.not_true, Bool.false_eq_true, if_false]
        rw [ih, lk_cons]
        by_cases e : k0 = k
        · subst e; rw [if_pos this, if_pos this]
        · rw [if_neg e]
      | false =>
        have : k0 ∉ S := fun h => by rw [memN_iff.2 h] at hm; cases hm
        simp only [Bool.not_false, if_true]
        rw [lk_cons, lk_cons, ih]
        by_cases e : k0 = k
        · subst e; rw [if_pos rfl, if_pos rfl, if_neg this]
        · rw [if_neg e, if_neg e]

theorem uses_false {S : List Nat} {a : AV} (h : a.uses S = false) : ∀ id ∈ a.ids, id ∉ S := fun id hid hS => by
  have : a.uses S = true := by
    simp only [AV.uses, List.any_eq_true]
    exact ⟨id, hid, memN_iff.2 hS⟩
  rw [h] at this; cases this

/-- What a write is asked. -/
structure UpdOk (C : Ctx) (st : St) (w w' : World) (I I' : Nat → Prop) (rt : Nat → List Value) (fp : Nat → List Nat) (S : List Nat) (keep : List (Nat × List Step)) (new : List (Nat × Tree)) (rtn : Nat → List Value) (fpn : Nat → List Nat) : Prop where
  size : w.heap.size ≤ w'.heap.size
  os : w'.os = w.os
  tape : w'.tape = w.tape
  output : w'.output = w.output
  heap : ∀ b, b < w.heap.size → (∀ id ∈ S, ∀ t, lk st.h id = some t → b ∉ fp id) → w'.heap[b]? = w.heap[b]?
  i : ∀ b, I b → I' b
  i2 : ∀ b, I' b → I b ∨ (b < w'.heap.size ∧ (w.heap.size ≤ b ∨ ∃ id ∈ S, ∃ t, lk st.h id = some t ∧ b ∈ fp id))
  tree : ∀ id t, lk new id = some t → (id ∈ S ∨ lk st.h id = none) ∧ Rep (md I' C.B) w' t.1 (rtn id) t.2 (fpn id) ∧ (fpn id).Nodup ∧
    ∀ b ∈ fpn id, ¬ I' b ∧ b < w'.heap.size ∧ (w.heap.size ≤ b ∨ ∃ id' ∈ S, ∃ t', lk st.h id' = some t' ∧ b ∈ fp id')
  dis : ∀ i j t u, lk new i = some t → lk new j = some u → i ≠ j → ∀ b ∈ fpn i, b ∉ fpn j
  keep : ∀ e ∈ keep, ∀ t, lk st.h e.1 = some t → ∃ t', lk new e.1 = some t' ∧ t'.1 = t.1 ∧ rtn e.1 = rt e.1 ∧
    ∀ (q : List Step) (τq : Ty) (lq : Loc) (cq : List Value), keepP e.2 q = true → Nav w t.1 none (rt e.1) q τq lq cq → Nav w' t.1 none (rt e.1) q τq lq cq

theorem RelAt.upd {C : Ctx} {st : St} {tm : Array Value} {w w' : World} {I I' : Nat → Prop} {rt rtn : Nat → List Value} {fp fpn : Nat → List Nat} {S : List Nat} {keep : List (Nat × List Step)} {new : List (Nat × Tree)} (h : RelAt C st tm w I rt fp)
    (u : UpdOk C st w w' I I' rt fp S keep new rtn fpn) : RelAt C ⟨kill S keep st.g, new ++ del S st.h⟩ tm w' I' (mixv new rtn rt) (mixv new fpn fp) := by
  have hM : ∀ m b, md I C.B m b → md I' C.B m b ∧ Sm w w' b := fun m b hb => by
    refine ⟨?_, .of_heap (u.heap b (h.ib b (md_or hb)) (fun id _ t ht hf => h.notM ht b hf m hb))⟩
    cases m
    · exact u.i b hb
    · exact hb.imp (u.i b) id
  have hcase : ∀ id t, lk (new ++ del S st.h) id = some t → (lk new id = some t ∧ mixv new rtn rt id = rtn id ∧ mixv new fpn fp id = fpn id) ∨
      (lk new id = none ∧ id ∉ S ∧ lk st.h id = some t ∧ mixv new rtn rt id = rt id ∧ mixv new fpn fp id = fp id) := fun id t ht => by
    rw [lk_append, lk_del] at ht
    cases hh : lk new id with
    | none =>
      rw [hh] at ht
      simp only [Option.none_or] at ht
      split at ht
      · cases ht
      · rename_i hS; exact .inr ⟨rfl, hS, ht, by simp [mixv, hh], by simp [mixv, hh]⟩
    | some u => rw [hh] at ht; exact .inl ⟨by simpa using ht, by simp [mixv, hh], by simp [mixv, hh]⟩
  have hbs : ∀ id t, lk st.h id = some t → id ∉ S → ∀ b ∈ fp id, Sm w w' b := fun id t ht hS b hb => .of_heap (u.heap b ((h.tree id t ht).2.2 b hb).2.2.1 (fun id' hS' t' ht' hb' =>
    h.dis id id' t t' ht ht' (fun e => hS (by rw [e]; exact hS')) b hb hb'))
  have hI' : ∀ id t, lk st.h id = some t → id ∉ S → ∀ b ∈ fp id, ¬ I' b := fun id t ht hS b hb hi => by
    have q := (h.tree id t ht).2.2 b hb
    rcases u.i2 b hi with hi | ⟨_, hi | ⟨id', hS', t', ht', hb'⟩⟩
    · exact q.1 hi
    · omega
    · exact h.dis id id' t t' ht ht' (fun e => hS (by rw [e]; exact hS')) b hb hb'
  refine { n := h.n, i0 := fun b hb => u.i b (h.i0 b hb), i1 := ?_, ib := ?_, tree := ?_, dis := ?_, tmp := ?_, frame := ?_, size := Nat.le_trans h.size u.size, os := u.os.trans h.os, tape := u.tape.trans h.tape, output := u.output.trans h.output, pin := h.pin }
  · intro b hb
    rcases u.i2 b hb with hb | ⟨_, hb | ⟨id', hS', t', ht', hb'⟩⟩
    · exact h.i1 b hb
    · exact .inr (.inl (Nat.le_trans h.size hb))
    · exact .inr ((h.tree id' t' ht').2.2 b hb').2.2.2
  · intro b hb
    rcases hb with hb | hb
    · rcases u.i2 b hb with hb | ⟨hb, _⟩
      · exact Nat.lt_of_lt_of_le (h.ib b (.inl hb)) u.size
      · exact hb
    · exact Nat.lt_of_lt_of_le (h.ib b (.inr hb)) u.size
  · intro id t ht
    rcases hcase id t ht with ⟨h1, h2, h3⟩ | ⟨h0, hS, h1, h2, h3⟩
    · obtain ⟨_, q1, q2, q3⟩ := u.tree id t h1
      rw [h2, h3]
      refine ⟨q1, q2, fun b hb => ?_⟩
      obtain ⟨r1, r2, r3⟩ := q3 b hb
      rcases r3 with r3 | ⟨id', hS', t', ht', hb'⟩
      · exact ⟨r1, fun hB => by have := h.ib b (.inr hB); omega, r2, .inl (Nat.le_trans h.size r3)⟩
      · have q := (h.tree id' t' ht').2.2 b hb'
        exact ⟨r1, q.2.1, r2, q.2.2.2⟩
    · obtain ⟨q1, q2, q3⟩ := h.tree id t h1
      rw [h2, h3]
      refine ⟨q1.mono hM (hbs id t h1 hS), q2, fun b hb => ?_⟩
      obtain ⟨r1, r2, r3, r4⟩ := q3 b hb
      exact ⟨hI' id t h1 hS b hb, r2, Nat.lt_of_lt_of_le r3 u.size, r4⟩
  · intro i j t v hi hj hij b hb
    rcases hcase i t hi with ⟨h1, _, h3⟩ | ⟨h0, hS, h1, _, h3⟩ <;> rcases hcase j v hj with ⟨k1, _, k3⟩ | ⟨k0, kS, k1, _, k3⟩ <;> rw [h3] at hb <;> rw [k3]
    · exact u.dis i j t v h1 k1 hij b hb
    · intro hb'
      rcases ((u.tree i t h1).2.2.2 b hb).2.2 with q | ⟨id', hS', t', ht', hb2⟩
      · have := ((h.tree j v k1).2.2 b hb').2.2.1
        omega
      · exact h.dis j id' v t' k1 ht' (fun e => kS (by rw [e]; exact hS')) b hb' hb2
    · intro hb'
      rcases ((u.tree j v k1).2.2.2 b hb').2.2 with q | ⟨id', hS', t', ht', hb2⟩
      · have := ((h.tree i t h1).2.2 b hb).2.2.1
        omega
      · exact h.dis i id' t t' h1 ht' (fun e => hS (by rw [e]; exact hS')) b hb hb2
    · exact h.dis i j t v h1 k1 hij b hb
  · intro k
    show AVok _ _ _ _ _ (gt (kill S keep st.g) k) _
    rw [gt_kill]
    have hk := h.tmp k
    generalize gt st.g k = av at hk
    generalize tm.getD k undef = val at hk
    unfold kill1
    cases hu : av.uses S with
    | false =>
      simp only [Bool.false_and, cond_false]
      refine hk.monoOn hM (fun id hid t ht => ?_)
      have hS := uses_false hu id hid
      have hnn : lk new id = none := by
        cases hh : lk new id with
        | none => rfl
        | some x =>
          rcases (u.tree id x hh).1 with q | q
          · exact absurd q hS
          · rw [ht] at q; cases q
      refine ⟨by rw [lk_append, hnn, lk_del, if_neg hS]; simpa using ht, by simp [mixv, hnn], by simp [mixv, hnn], (h.tree id t ht).1, hbs id t ht hS⟩
    | true =>
      cases hr : isRoot keep av with
      | false => simp only [Bool.not_false, Bool.and_self, cond_true]; exact .dead _
      | true =>
        simp only [Bool.not_true, Bool.and_false, cond_false]
        have one : ∀ (id : Nat) (t : Tree), lk st.h id = some t → ∀ e ∈ keep, e.1 = id → ∃ t', lk (new ++ del S st.h) id = some t' ∧ t'.1 = t.1 ∧ mixv new rtn rt id = rt id ∧
            ∀ (q : List Step) (τq : Ty) (lq : Loc) (cq : List Value), keepP e.2 q = true → Nav w t.1 none (rt id) q τq lq cq → Nav w' t.1 none (rt id) q τq lq cq := by
          intro id t ht e he hid
          subst hid
          obtain ⟨t', q1, q2, q3, q4⟩ := u.keep e he _ ht
          exact ⟨t', by rw [lk_append, q1]; rfl, q2, by simp [mixv, q1, q3], q4⟩
        have get : ∀ (id : Nat) (q : List Step), (keep.any fun e => Nat.beq e.1 id && keepP e.2 q) = true → ∃ e ∈ keep, e.1 = id ∧ keepP e.2 q = true := by
          intro id q hh
          obtain ⟨e, he, h2⟩ := List.any_eq_true.1 hh
          simp only [Bool.and_eq_true] at h2
          exact ⟨e, he, Nat.eq_of_beq_eq_true h2.1, h2.2⟩
        cases av with
        | ref id p =>
          cases p with
          | nil =>
            obtain ⟨e, he, h2⟩ := List.any_eq_true.1 (show (keep.any fun e => Nat.beq e.1 id) = true from hr)
            have h2 := Nat.eq_of_beq_eq_true h2
            cases hk with | ref ht hn =>
            obtain ⟨rfl, rfl, rfl⟩ := Nav.nil_iff.1 hn
            obtain ⟨t', q1, q2, q3, _⟩ := one id _ ht e he h2
            rw [← q2]
            refine .ref (loc := none) q1 ?_
            rw [q3]
            exact Nav.here
          | cons s p =>
            obtain ⟨e, he, h2, h3⟩ := get id (s :: p) hr
            cases hk with | ref ht hn =>
            obtain ⟨t', q1, q2, q3, q4⟩ := one id _ ht e he h2
            have hn' := q4 _ _ _ _ h3 hn
            rw [← q3, ← q2] at hn'
            exact .ref q1 hn'
        | addr id p =>
          obtain ⟨e, he, h2, h3⟩ := get id p hr
          cases hk with | addr ht hn =>
          obtain ⟨t', q1, q2, q3, q4⟩ := one id _ ht e he h2
          have hn' := q4 _ _ _ _ h3 hn
          rw [← q3, ← q2] at hn'
          exact .addr q1 hn'
        | view id p lo hi =>
          obtain ⟨e, he, h2, h3⟩ := get id p hr
          cases hk with | view ht hn l1 l2 l3 =>
          obtain ⟨t', q1, q2, q3, q4⟩ := one id _ ht e he h2
          have hn' := q4 _ _ _ _ h3 hn
          rw [← q3, ← q2] at hn'
          exact .view q1 hn' l1 l2 l3
        | _ => cases hr
  · intro b hb hF
    rw [u.heap b (Nat.lt_of_lt_of_le hb h.size)]
    · exact h.frame b hb hF
    · intro id _ t ht hb'
      have := ((h.tree id t ht).2.2 b hb').2.2.2
      rcases this with q | q
      · omega
      · exact hF q
end Go.Fw
