/-
  The framework, part 14: assignments that hand a tree on; append.
-/
import Derived.Test.YtlalecmgnaoiiaaFw13
namespace Go.Fw

theorem flatten_mid {α : Type} (l : List (List α)) (lo hi : Nat) : ((l.take hi).drop lo).flatten.Sublist l.flatten := by
  have h : l.flatten = ((l.take hi).take lo).flatten ++ ((l.take hi).drop lo).flatten ++ (l.drop hi).flatten := by
    rw [← List.flatten_append, List.take_append_drop, ← List.flatten_append, List.take_append_drop]
  rw [h]
  exact (List.sublist_append_right _ _).trans (List.sublist_append_left _ _)

section
variable {E : Env} {C : Ctx} {st : St} {a : Act} {tm : Array Value} {w : World} {I : Nat → Prop} {rt : Nat → List Value} {fp : Nat → List Nat} {o : Oper} {Q : St → Prop}

/-- An assignment that moves a tree, or makes an empty one. -/
def asgF (an : List (Nat × Ty)) (st : St) (d : Nat) (v : AV) : SRes :=
  match v with
  | .ref id [] => match lk st.h id with
    | some t => .tot ⟨(d, .ref d []) :: kill [id, d] [] st.g, (d, t) :: del [id, d] st.h⟩
    | none => .bad
  | .ref id p => bif Nat.beq id d then .bad else .tot ⟨(d, .ref id p) :: kill [d] [] st.g, del [d] st.h⟩
  | .view id [] lo hi => match lk st.h id with
    | some ⟨.osl t, xs⟩ => .tot ⟨(d, .ref d []) :: kill [id, d] [] st.g, (d, ⟨.osl t, (xs.take hi).drop lo⟩) :: del [id, d] st.h⟩
    | _ => .bad
  | .cv (.slice none 0 0) => match lk an d with
    | some (.osl t) => .tot ⟨(d, .ref d []) :: kill [d] [] st.g, (d, ⟨.osl t, []⟩) :: del [d] st.h⟩
    | _ => .bad
  | _ => .bad

/-- A tree under one number, made of what touched trees had. -/
theorem UpdOk.one {w' : World} {I' : Nat → Prop} {S : List Nat} {d : Nat} {t : Tree} {cs : List Value} {f : List Nat} (hd : d ∈ S ∨ lk st.h d = none) (h1 : w.heap.size ≤ w'.heap.size) (h2 : w'.os = w.os) (h3 : w'.tape = w.tape) (h4 : w'.output = w.output)
    (h5 : ∀ b, b < w.heap.size → (∀ id ∈ S, ∀ t, lk st.h id = some t → b ∉ fp id) → w'.heap[b]? = w.heap[b]?) (h6 : ∀ b, I b → I' b) (h7 : ∀ b, I' b → I b ∨ (b < w'.heap.size ∧ (w.heap.size ≤ b ∨ ∃ id ∈ S, ∃ t, lk st.h id = some t ∧ b ∈ fp id)))
    (hr : Rep (md I' C.B) w' t.1 cs t.2 f) (hf : f.Nodup) (hb : ∀ b ∈ f, ¬ I' b ∧ b < w'.heap.size ∧ (w.heap.size ≤ b ∨ ∃ id' ∈ S, ∃ t', lk st.h id' = some t' ∧ b ∈ fp id')) :
    UpdOk C st w w' I I' rt fp S [] [(d, t)] (fun _ => cs) (fun _ => f) := by
  refine ⟨h1, h2, h3, h4, h5, h6, h7, ?_, ?_, fun id hid => by cases hid⟩
  · intro i u hu
    rw [lk_cons] at hu
    split at hu
    · rename_i e
      subst e
      obtain rfl := Option.some.inj hu
      exact ⟨hd, hr, hf, hb⟩
    · cases hu
  · intro i j u v hi hj hij
    rw [lk_cons] at hi hj
    split at hi
    · split at hj
      · rename_i e1 e2; exact absurd (e1.symm.trans e2) hij
      · cases hj
    · cases hi

theorem OK1.asg {an : List (Nat × Ty)} {x : Operand} {d : Nat} (ho : o.op = .assign x) (hd : o.dst = some d) (hdn : C.ok d) (h : (asgF an st d (opA st.g x)).K Q) : OK1 E C o st Q := by
  rintro a w ⟨I, rt, fp, hR⟩ next X hnext
  have hx := hR.opA x
  have hrun : (execOp a.eval o).run E.P w = .ok (.value (a.eval x)) w := by simp [execOp, ho]
  have fin : ∀ (st' : St) (rtn : Nat → List Value) (fpn : Nat → List Nat), RelAt C st' (a.tmps.setIfInBounds d (a.eval x)) w I rtn fpn → Q st' → o.wp E.P a w next X := by
    intro st' rtn fpn hr hq
    unfold Oper.wp
    rw [hrun]
    show next (a.put o.dst (a.eval x)) w
    rw [hd]
    exact hnext _ _ _ hq rfl ⟨I, rtn, fpn, hr⟩
  -- one new tree d out of S, whose root is the value
  have one : ∀ (S : List Nat) (t : Tree) (cs : List Value) (f : List Nat), d ∈ S → Rep (md I C.B) w t.1 cs t.2 f → f.Nodup → (∀ b ∈ f, ∃ id' ∈ S, ∃ t', lk st.h id' = some t' ∧ b ∈ fp id') → a.eval x = regV t.1 cs →
      Q ⟨(d, .ref d []) :: kill S [] st.g, (d, t) :: del S st.h⟩ → o.wp E.P a w next X := by
    intro S t cs f hdS hr hf hb hv hq
    have hu := hR.upd (UpdOk.one (st := st) (C := C) (rt := rt) (w' := w) (I' := I) (S := S) (d := d) (t := t) (cs := cs) (f := f) (.inl hdS) (Nat.le_refl _) rfl rfl rfl (fun _ _ _ => rfl) (fun _ h => h) (fun _ h => .inl h) hr hf (fun b hb' => by
      obtain ⟨i, hi, u, hu, hbi⟩ := hb b hb'
      obtain ⟨q1, q2, q3, q4⟩ := (hR.tree i u hu).2.2 b hbi
      exact ⟨q1, q3, .inr ⟨i, hi, u, hu, hbi⟩⟩))
    refine fin _ _ _ (hu.put hdn (av := .ref d []) ?_) hq
    rw [hv]
    refine .ref (t := t) (loc := none) (by rw [lk_append, lk_cons, if_pos rfl]; rfl) ?_
    rw [mixv_one]
    exact Nav.here
  unfold asgF at h
  split at h
  · rename_i id ex
    split at h
    case h_2 => exact h.elim
    rename_i t ht
    rw [ex] at hx
    obtain ⟨r1, r2, r3⟩ := hR.tree id t ht
    refine one [id, d] t (rt id) (fp id) (by simp) r1 r2 (fun b hb => ⟨id, by simp, t, ht, hb⟩) ?_ h
    generalize hvv : a.eval x = vv at hx
    cases hx with | ref ht' hn =>
    rw [ht] at ht'; cases ht'
    obtain ⟨rfl, rfl, rfl⟩ := Nav.nil_iff.1 hn
    rfl
  · rename_i id p _ ex
    cases hb : Nat.beq id d with
    | true => rw [hb] at h; exact h.elim
    | false =>
      rw [hb] at h
      have hne : id ≠ d := fun e => by rw [e, Nat.beq_refl] at hb; cases hb
      have hu := hR.upd (S := [d]) (keep := []) (new := []) (rtn := rt) (fpn := fp) (w' := w) (I' := I) ⟨Nat.le_refl _, rfl, rfl, rfl, fun _ _ _ => rfl, fun _ h => h, fun _ h => .inl h, (fun _ _ h => by cases h), (fun _ _ _ _ h => by cases h), (fun _ h => by cases h)⟩
      refine fin _ _ _ (hu.put hdn (av := .ref id p) ?_) h
      have := hu.opA (a := a) x
      have e2 : opA (kill [d] [] st.g) x = .ref id p := by
        cases x with
        | tmp t =>
          show gt (kill [d] [] st.g) t = _
          rw [gt_kill, show gt st.g t = .ref id p from ex]
          have : memN id [d] = false := by
            cases hm : memN id [d]
            · rfl
            · exact absurd (by simpa using memN_iff.1 hm) hne
          simp [kill1, AV.uses, AV.ids, this]
        | const v => exact absurd ex (by cases v <;> simp [opA])
        | global g => cases ex
        | func f => cases ex
      rw [← e2]
      exact this
  · rename_i id lo hi ex
    split at h
    case h_2 => exact h.elim
    rename_i t xs ht
    rw [ex] at hx
    obtain ⟨r1, r2, r3⟩ := hR.tree id _ ht
    generalize hvv : a.eval x = vv at hx one fin hrun
    cases hx with | view ht' hn l1 l2 l3 =>
    rename_i b off len cap
    rw [ht] at ht'; cases ht'
    obtain ⟨e1, _, e3⟩ := Nav.nil_iff.1 hn
    cases e1
    obtain ⟨ad, cap', hh, hr⟩ := r1
    rw [e3] at hh
    simp only [List.cons.injEq, Value.slice.injEq, and_true] at hh
    obtain ⟨rfl, rfl, rfl⟩ := hh
    rcases hr with ⟨h0, _⟩ | ⟨b', off', fps, h0, hfp, q1, q2, q3, q4⟩
    · cases h0
    cases h0
    have hlen : ((xs.take hi).drop lo).length = hi - lo := by simp; omega
    refine one [id, d] ⟨.osl t, (xs.take hi).drop lo⟩ [.slice (some ⟨b, if cap = lo then off else off + lo * t.size, none⟩) (hi - lo) (cap - lo)] (b :: ((fps.take hi).drop lo).flatten) (by simp) ?_ ?_ ?_ rfl h
    · refine ⟨some ⟨b, if cap = lo then off else off + lo * t.size, none⟩, cap - lo, by rw [hlen], .inr ⟨b, _, (fps.take hi).drop lo, rfl, rfl, by simp [q1], by simp only [hlen]; omega, ?_, ?_⟩⟩
      · intro j h1 h2
        by_cases hc : cap = lo
        · subst hc; simp at h1 h2; omega
        · rw [if_neg hc] at h1 h2
          have : lo * t.size + (cap - lo) * t.size = cap * t.size := by rw [← Nat.add_mul]; congr 1; omega
          exact q3 j (by omega) (by omega)
      · intro i y f hy hf
        have hil : i < hi - lo := by rw [← hlen]; exact (List.getElem?_eq_some_iff.1 hy).1
        rw [List.getElem?_drop, List.getElem?_take_of_lt (by omega)] at hy hf
        obtain ⟨ds, d1, d2, d3⟩ := q4 (lo + i) y f hy hf
        refine ⟨ds, d1, ?_, d3⟩
        rw [if_neg (by omega)]
        rwa [show off + lo * t.size + i * t.size = off + (lo + i) * t.size by rw [Nat.add_mul]; omega]
    · rw [hfp] at r2
      have hsub : ((fps.take hi).drop lo).flatten.Sublist fps.flatten := flatten_mid _ _ _
      rw [List.nodup_cons] at r2 ⊢
      exact ⟨fun hm => r2.1 (hsub.subset hm), r2.2.sublist hsub⟩
    · intro c hc
      refine ⟨id, by simp, _, ht, ?_⟩
      rw [hfp]
      rcases List.mem_cons.1 hc with rfl | hc
      · simp
      · have hsub : ((fps.take hi).drop lo).flatten.Sublist fps.flatten := flatten_mid _ _ _
        exact List.mem_cons_of_mem _ (hsub.subset hc)
  · rename_i ex
    split at h
    case h_2 => exact h.elim
    rename_i t han
    rw [ex] at hx
    refine one [d] ⟨.osl t, []⟩ [.slice none 0 0] [] (by simp) ⟨none, 0, rfl, .inl ⟨rfl, rfl, rfl, rfl⟩⟩ (by simp) (by simp) ?_ h
    generalize hvv : a.eval x = vv at hx
    cases hx
    rfl
  · exact h.elim
end
end Go.Fw
