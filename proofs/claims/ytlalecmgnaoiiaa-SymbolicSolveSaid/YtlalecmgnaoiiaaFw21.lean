/-
  The framework, part 21: the step over a call.
-/
import Derived.Test.YtlalecmgnaoiiaaFw20
namespace Go.Fw

/-- What a call's state is asked, by computation: distinct trees are handed over; the results' numbers are free. -/
def callChk (d : Nat) (st : St) (avs : List AV) (args : List Arg) (res : List Tree) : Bool :=
  nodupB (takenIds avs args) && nodupB ((outTrees avs args ++ resTrees d (isSingle res) 0 res).map (·.1)) && (resTrees d (isSingle res) 0 res).all fun q => (lk st.h q.1).isNone

section
variable {E : Env} {C : Ctx} {st : St} {a : Act} {w w' : World} {I I' B' : Nat → Prop} {rt : Nat → List Value} {fp : Nat → List Nat}

theorem keptIds_taken : ∀ {as : List AV} {bs : List Arg}, ∀ id ∈ keptIds as bs, id ∈ takenIds as bs
  | [], bs, id, h => by cases bs <;> cases h
  | a :: as, [], id, h => by cases a <;> first | (cases h; done) | (rename_i i p; cases p <;> cases h)
  | a :: as, b :: bs, id, h => by
      have ih := keptIds_taken (as := as) (bs := bs) id
      cases a with
      | ref i p => cases p with
        | nil => cases b <;> simp only [keptIds, takenIds, List.mem_cons] at h ⊢ <;> first | exact h.imp (fun h => h) ih | exact .inr (ih h) | exact ih h
        | cons => cases b <;> exact ih h
      | _ => cases b <;> exact ih h

theorem keptIds_out {rt : Nat → List Value} {S : List Nat} {h : List (Nat × Tree)} : ∀ {as : List AV} {bs : List Arg} {gs : List (List Nat)}, ArgsAt h S as bs → gs.length = bs.length → ∀ id ∈ keptIds as bs, ∃ q ∈ outL rt as bs gs, q.1 = id ∧ lk h id = some ⟨q.2.1.1, (match lk h id with | some t => if e : t.1 = q.2.1.1 then e ▸ t.2 else q.2.1.2 | none => q.2.1.2)⟩
  | [], bs, gs, _, _, id, h => by cases bs <;> cases h
  | a :: as, [], gs, h1, _, id, h => by cases a <;> exact h1.elim
  | a :: as, b :: bs, [], _, hl, id, h => by cases hl
  | a :: as, b :: bs, g :: gs, h1, hl, id, h => by
      have ih := keptIds_out (rt := rt) (as := as) (bs := bs) (gs := gs) h1.2 (by simpa using hl) id
      have h1a := h1.1
      cases a with
      | ref i p => cases p with
        | nil =>
          cases b with
          | m t y =>
            simp only [keptIds, List.mem_cons] at h
            simp only [outL]
            rcases h with rfl | h
            · refine ⟨_, List.mem_cons_self .., rfl, ?_⟩
              rw [h1a.1]
              simp
            · obtain ⟨q, hq, e⟩ := ih h
              exact ⟨q, List.mem_cons_of_mem _ hq, e⟩
          | v t => exact ih h
          | o t => exact ih h
        | cons => cases b <;> exact ih h
      | _ => cases b <;> exact ih h

theorem all3q_len {α β γ : Type} {R : α → β → γ → Prop} : ∀ {as : List α} {bs : List β} {cs : List γ}, all3 R as bs cs → bs.length = as.length ∧ cs.length = as.length
  | [], bs, cs, h => by cases bs <;> cases cs <;> first | exact ⟨rfl, rfl⟩ | exact h.elim
  | a :: as, [], cs, h => h.elim
  | a :: as, b :: bs, [], h => h.elim
  | a :: as, b :: bs, c :: cs, h => by obtain ⟨h1, h2⟩ := all3q_len h.2; simp [h1, h2]

theorem nodup_disj {L : List (Nat × NewT)} (h : ((L.map fun q => q.2.2.2).flatten).Nodup) : (∀ q ∈ L, q.2.2.2.Nodup) ∧ ∀ i j qi qj, lk L i = some qi → lk L j = some qj → i ≠ j → ∀ b ∈ qi.2.2, b ∉ qj.2.2 := by
  induction L with
  | nil => exact ⟨by simp, fun i j qi qj h => by cases h⟩
  | cons x L ih =>
    obtain ⟨k, x⟩ := x
    simp only [List.map_cons, List.flatten_cons, List.nodup_append] at h
    obtain ⟨h1, h2, h3⟩ := h
    obtain ⟨i1, i2⟩ := ih h2
    refine ⟨fun q hq => ?_, fun i j qi qj hi hj hij b hb => ?_⟩
    · rcases List.mem_cons.1 hq with rfl | hq
      · exact h1
      · exact i1 q hq
    · rw [lk_cons] at hi hj
      have inL : ∀ k' q', lk L k' = some q' → ∀ c ∈ q'.2.2, c ∈ (L.map fun q => q.2.2.2).flatten := fun k' q' hk c hc => List.mem_flatten.2 ⟨_, List.mem_map.2 ⟨(k', q'), lk_mem hk, rfl⟩, hc⟩
      split at hi
      · rename_i e1
        split at hj
        · rename_i e2; exact absurd (e1.symm.trans e2) hij
        · obtain rfl := Option.some.inj hi
          intro hb'
          exact h3 b hb b (inL j qj hj b hb') rfl
      · split at hj
        · obtain rfl := Option.some.inj hj
          intro hb'
          exact h3 b hb' b (inL i qi hi b hb) rfl
        · exact i2 i j qi qj hi hj hij b hb

theorem lk_of_mem {α : Type} : ∀ {L : List (Nat × α)}, (L.map (·.1)).Nodup → ∀ {q : Nat × α}, q ∈ L → lk L q.1 = some q.2
  | [], _, q, h => by cases h
  | (k, x) :: L, hn, q, h => by
      simp only [List.map_cons, List.nodup_cons] at hn
      rw [lk_cons]
      rcases List.mem_cons.1 h with rfl | h
      · rw [if_pos rfl]
      · rw [if_neg (fun e => hn.1 (by rw [e]; exact List.mem_map.2 ⟨q, h, rfl⟩))]
        exact lk_of_mem hn.2 h

theorem resAVs_get {d : Nat} {s : Bool} : ∀ {j : Nat} {res : List Tree} {i : Nat} {av : AV}, (resAVs d s j res)[i]? = some av → ∃ t, res[i]? = some t ∧ av = (bif t.1.pure then .val t.1 t.2 else .ref (resId d s (j + i)) [])
  | j, [], i, av, h => by simp [resAVs] at h
  | j, t :: r, i, av, h => by
      simp only [resAVs] at h
      cases i with
      | zero => simp only [List.getElem?_cons_zero, Option.some.injEq] at h; exact ⟨t, rfl, h.symm⟩
      | succ i =>
        obtain ⟨t', h1, h2⟩ := resAVs_get (by simpa using h)
        exact ⟨t', by simpa using h1, by rw [h2, show j + 1 + i = j + (i + 1) by omega]⟩
theorem resAVs_len {d : Nat} {s : Bool} : ∀ {j : Nat} {res : List Tree}, (resAVs d s j res).length = res.length
  | j, [] => rfl
  | j, t :: r => by simp [resAVs, resAVs_len]

theorem resL_mem {d : Nat} {s : Bool} : ∀ {j : Nat} {res : List Tree} {cs : List (List Value)} {hs : List (List Nat)}, cs.length = res.length → hs.length = res.length → ∀ (i : Nat) t c h, res[i]? = some t → cs[i]? = some c → hs[i]? = some h → t.1.pure = false → (resId d s (j + i), (t, c, h)) ∈ resL d s j res cs hs
  | j, [], cs, hs, _, _, i, t, c, h, e1, _, _, _ => by simp at e1
  | j, t :: r, [], hs, h1, _, _, _, _, _, _, _, _, _ => by cases h1
  | j, t :: r, c :: cs, [], _, h2, _, _, _, _, _, _, _, _ => by cases h2
  | j, t :: r, c :: cs, h :: hs, h1, h2, i, t', c', h', e1, e2, e3, hp => by
      simp only [resL]
      cases i with
      | zero =>
        simp only [List.getElem?_cons_zero, Option.some.injEq] at e1 e2 e3
        subst e1; subst e2; subst e3
        rw [hp]
        exact List.mem_cons_self ..
      | succ i =>
        have := resL_mem (d := d) (s := s) (j := j + 1) (res := r) (cs := cs) (hs := hs) (by simpa using h1) (by simpa using h2) i t' c' h' (by simpa using e1) (by simpa using e2) (by simpa using e3) hp
        rw [show j + 1 + i = j + (i + 1) by omega] at this
        cases t.1.pure
        · exact List.mem_cons_of_mem _ this
        · exact this
end

section
variable {E : Env} {C : Ctx} {st : St} {ops : Array Oper} {Q : St → Prop}

theorem taken_there {h : List (Nat × Tree)} {S : List Nat} : ∀ {as : List AV} {bs : List Arg}, ArgsAt h S as bs → ∀ id ∈ takenIds as bs, ∃ t, lk h id = some t
  | [], bs, _, id, hid => by cases bs <;> cases hid
  | a :: as, [], h1, id, hid => by cases a <;> exact h1.elim
  | a :: as, b :: bs, h1, id, hid => by
      have ih := taken_there (as := as) (bs := bs) h1.2 id
      have h1a := h1.1
      cases a with
      | ref i p => cases p with
        | nil =>
          cases b with
          | m t y =>
            simp only [takenIds, List.mem_cons] at hid
            rcases hid with rfl | hid
            · exact ⟨_, h1a.1⟩
            · exact ih hid
          | o t =>
            simp only [takenIds, List.mem_cons] at hid
            rcases hid with rfl | hid
            · exact ⟨_, h1a⟩
            · exact ih hid
          | v t => exact ih hid
        | cons => cases b <;> exact ih hid
      | _ => cases b <;> exact ih hid

theorem nodup_fps {tm : Array Value} {w : World} {I : Nat → Prop} {rt : Nat → List Value} {fp : Nat → List Nat} (hR : RelAt C st tm w I rt fp) : ∀ {S : List Nat}, (∀ id ∈ S, ∃ t, lk st.h id = some t) → S.Nodup → ((S.map fp).flatten).Nodup
  | [], _, _ => by simp
  | id :: S, h, hn => by
      rw [List.nodup_cons] at hn
      simp only [List.map_cons, List.flatten_cons, List.nodup_append]
      obtain ⟨t, ht⟩ := h id (by simp)
      refine ⟨(hR.tree id t ht).2.1, nodup_fps hR (fun i hi => h i (by simp [hi])) hn.2, fun b hb c hc e => ?_⟩
      subst e
      obtain ⟨l', h1, h2⟩ := List.mem_flatten.1 hc
      obtain ⟨id', hid', rfl⟩ := List.mem_map.1 h1
      obtain ⟨t', ht'⟩ := h id' (by simp [hid'])
      exact hR.dis id id' t t' ht ht' (fun e => hn.1 (e ▸ hid')) b hb h2

theorem OK1.call {Q : St → Prop} {d f : Nat} {o : Oper} {xs argTypes : Array _} (hop : o.op = .call { callee := .value (.func f), args := xs, argTypes := argTypes }) (hd : o.dst = some d) (hdn : C.ok d)
    (hcall : ∀ (vs : Array Value) (w : World), (callFunc f vs).run E.P w = .ok (.enter f vs) w) {args : List Arg} {res : List Tree} (hc : CallOk E f args res)
    (ha : ArgsAt st.h (takenIds (xs.toList.map (opA st.g)) args) (xs.toList.map (opA st.g)) args) (hk : callChk d st (xs.toList.map (opA st.g)) args res = true)
    (h : Q (callSt d st (xs.toList.map (opA st.g)) args res)) : OK1 E C o st Q := by
  rintro a w ⟨I, rt, fp, hR⟩ next X hnext
  generalize havs : xs.toList.map (opA st.g) = avs at *
  simp only [callChk, Bool.and_eq_true, List.all_eq_true] at hk
  obtain ⟨⟨hk1, hk2⟩, hk3⟩ := hk
  have hk1 := nodupB.ok hk1
  have hk2 := nodupB.ok hk2
  let S := takenIds avs args
  let B' : Nat → Prop := fun b => C.B b ∨ ∃ id t, lk st.h id = some t ∧ memN id S = false ∧ b ∈ fp id
  have hB1 : ∀ b, C.B b → B' b := fun b hb => .inl hb
  have hB2 : ∀ id t, lk st.h id = some t → memN id S = false → ∀ b ∈ fp id, B' b := fun id t ht hm b hb => .inr ⟨id, t, ht, hm, hb⟩
  obtain ⟨fs, hfs, hflat⟩ := argsH hR (B' := B') (S := S) hB1 hB2 (fun b hb => hb) (xs := xs.toList) (args := args) (by rw [havs]; exact ha)
  rw [havs] at hflat
  -- each tree that is handed over is there
  have hthere : ∀ id ∈ S, ∃ t, lk st.h id = some t := fun id hid => taken_there ha id hid
  have hfsmem : ∀ b ∈ fs.flatten, ∃ id ∈ S, ∃ t, lk st.h id = some t ∧ b ∈ fp id := by
    intro b hb
    rw [hflat] at hb
    obtain ⟨l', h1, h2⟩ := List.mem_flatten.1 hb
    obtain ⟨id, hid, rfl⟩ := List.mem_map.1 h1
    obtain ⟨t, ht⟩ := hthere id hid
    exact ⟨id, hid, t, ht, h2⟩
  have hfsnd : fs.flatten.Nodup := by
    rw [hflat]
    exact nodup_fps hR hthere hk1
  have hcalls := hc w I B' (xs.toList.map a.eval) fs (fun b hb => by
      rcases hb with hb | hb | ⟨id, t, ht, _, hb⟩
      · exact hR.ib b (.inl hb)
      · exact hR.ib b (.inr hb)
      · exact ((hR.tree id t ht).2.2 b hb).2.2.1) hfs hfsnd (fun b hb => by
      obtain ⟨id, hid, t, ht, hbi⟩ := hfsmem b hb
      obtain ⟨q1, q2, q3, q4⟩ := (hR.tree id t ht).2.2 b hbi
      refine ⟨q1, ?_, q3⟩
      rintro (h | ⟨id', t', ht', hm, hb'⟩)
      · exact q2 h
      · have hne : id ≠ id' := fun e => by rw [← e, memN_iff.2 hid] at hm; cases hm
        exact hR.dis id id' t t' ht ht' hne b hbi hb')
  have hrun : (execOp a.eval o).run E.P w = .ok (.enter f (xs.toList.map a.eval).toArray) w := by
    have e1 : xs.map a.eval = (xs.toList.map a.eval).toArray := by rw [← Array.toList_map]
    have e2 : a.eval (.func f) = .func (.func f) #[] #[] := rfl
    simp only [execOp, hop, resolve, e1, Sem.run_bind, e2, Deferred.ofValue, Sem.run_pure, Result.andThen_ok, invoke, Array.empty_append, Array.append_empty]
    exact hcall _ _
  unfold Oper.wp
  rw [hrun]
  show Calls E.P f _ w _
  refine hcalls.mono ?_
  rintro e w' ⟨I', gs, hs, rv, rfl, hp⟩
  show next (a.put o.dst (retV rv)) w'
  rw [hd]
  obtain ⟨css, lc1, lc2, lc3, hres⟩ := resH_cs hp.res
  have hgl := (all3q_len hp.args).2
  have hargs' : ArgsAt st.h S avs args := ha
  let L : List (Nat × NewT) := outL rt avs args gs ++ resL d (isSingle res) 0 res css hs
  have hLmap : L.map (fun q => (q.1, q.2.1)) = outTrees avs args ++ resTrees d (isSingle res) 0 res := by
    simp only [L, List.map_append]
    rw [outL_map hgl, resL_map lc1 lc2]
  have hLids : (L.map (·.1)).Nodup := by
    have : L.map (·.1) = (L.map (fun q => (q.1, q.2.1))).map (·.1) := by simp [List.map_map]
    rw [this, hLmap]; exact hk2
  have hfo : ((outL rt avs args gs).map (fun q => q.2.2.2)).flatten = gs.flatten := outL_fps hargs' hp.args
  have hfr : ((resL d (isSingle res) 0 res css hs).map (fun q => q.2.2.2)).flatten.Sublist hs.flatten := resL_fps
  have hLf : ((L.map fun q => q.2.2.2).flatten).Sublist (gs.flatten ++ hs.flatten) := by
    simp only [L, List.map_append, List.flatten_append]
    rw [hfo]
    exact List.Sublist.append (List.Sublist.refl _) hfr
  obtain ⟨hLn, hLd⟩ := nodup_disj (hp.nd.sublist hLf)
  have hout : ∀ q ∈ outL rt avs args gs, Rep (md I' C.B) w' q.2.1.1 q.2.2.1 q.2.1.2 q.2.2.2 ∧ q.2.2.1 = rt q.1 ∧ q.1 ∈ S ∧ ∃ t, lk st.h q.1 = some t ∧ q.2.1.1 = t.1 := by
    have := outL_rep hR (S := S) (xs := xs.toList) (args := args) (gs := gs) (by rw [havs]; exact ha) hp.args
    rw [havs] at this
    exact this
  have hLrep : ∀ q ∈ L, Rep (md I' C.B) w' q.2.1.1 q.2.2.1 q.2.1.2 q.2.2.2 ∧ (q.1 ∈ S ∨ lk st.h q.1 = none) := by
    intro q hq
    rcases List.mem_append.1 hq with hq | hq
    · obtain ⟨q1, _, q3, _⟩ := hout q hq
      exact ⟨q1, .inl q3⟩
    · obtain ⟨k, e1, e2, e3⟩ := resL_get lc1 lc2 q hq
      have hkl : k < rv.length := by rw [lc3]; exact (List.getElem?_eq_some_iff.1 e1).1
      obtain ⟨_, hr⟩ := hres k _ _ _ rv[k] e1 e2 e3 (by simp)
      refine ⟨hr.mono (fun m b hm => ⟨?_, Sm.refl _ _⟩) (fun b _ => Sm.refl _ _), .inr ?_⟩
      · cases m
        · exact hm
        · exact hm.elim .inl (fun h => h.elim)
      · have hm : (q.1, q.2.1) ∈ resTrees d (isSingle res) 0 res := by
          rw [← resL_map (d := d) (s := isSingle res) (j := 0) lc1 lc2]
          exact List.mem_map.2 ⟨q, hq, rfl⟩
        exact Option.isNone_iff_eq_none.1 (hk3 _ hm)
  have hLb : ∀ q ∈ L, ∀ b ∈ q.2.2.2, b ∈ gs.flatten ++ hs.flatten := fun q hq b hb => hLf.subset (List.mem_flatten.2 ⟨_, List.mem_map.2 ⟨q, hq, rfl⟩, hb⟩)
  have hlk : ∀ k, lk (outTrees avs args ++ resTrees d (isSingle res) 0 res) k = (lk L k).map (·.1) := fun k => by
    rw [← hLmap]; exact lk_map (fun q : NewT => q.1) L k
  let rtn : Nat → List Value := fun k => match lk L k with | some q => q.2.1 | none => []
  let fpn : Nat → List Nat := fun k => match lk L k with | some q => q.2.2 | none => []
  have hu := hR.upd (S := S) (keep := kp0 (keptIds avs args)) (new := outTrees avs args ++ resTrees d (isSingle res) 0 res) (rtn := rtn) (fpn := fpn) (w' := w') (I' := I')
    ⟨hp.size, hp.os, hp.tape, hp.output, fun b hb hS => hp.heap b hb (fun hf => by obtain ⟨id, hid, t, ht, hbi⟩ := hfsmem b hf; exact hS id hid t ht hbi), hp.i,
      (fun b hb => by
        rcases hp.i2 b hb with h | ⟨h1, h2 | h2⟩
        · exact .inl h
        · exact .inr ⟨h1, .inl h2⟩
        · exact .inr ⟨h1, .inr (hfsmem b h2)⟩),
      (fun id t hid => by
        rw [hlk] at hid
        cases hL : lk L id with
        | none => rw [hL] at hid; cases hid
        | some q =>
          rw [hL] at hid
          obtain rfl : q.1 = t := Option.some.inj hid
          have hm := lk_mem hL
          obtain ⟨h1, h2⟩ := hLrep _ hm
          refine ⟨h2, by simp only [rtn, fpn, hL]; exact h1, by simp only [fpn, hL]; exact hLn _ hm, fun b hb => ?_⟩
          simp only [fpn, hL] at hb
          obtain ⟨q1, q2, q3, q4⟩ := hp.bl b (hLb _ hm b hb)
          exact ⟨q1, q3, q4.imp (fun h => h) (hfsmem b)⟩),
      (fun i j t u hi hj hij b hb => by
        rw [hlk] at hi hj
        cases hLi : lk L i with
        | none => rw [hLi] at hi; cases hi
        | some qi =>
          cases hLj : lk L j with
          | none => rw [hLj] at hj; cases hj
          | some qj =>
            simp only [fpn, hLi] at hb
            simp only [fpn, hLj]
            exact hLd i j qi qj hLi hLj hij b hb),
      (fun e0 he0 t ht => by
        obtain ⟨id, hid, rfl⟩ := List.mem_map.1 he0
        obtain ⟨q, hq, e, _⟩ := keptIds_out (rt := rt) hargs' hgl id hid
        subst e
        have hm : q ∈ L := List.mem_append_left _ hq
        have hl := lk_of_mem hLids hm
        obtain ⟨_, h2, _, t', h3, h4⟩ := hout q hq
        rw [ht] at h3
        obtain rfl := Option.some.inj h3
        exact ⟨q.2.1, by rw [hlk, hl]; rfl, h4, by simp only [rtn, hl]; exact h2, fun q _ _ _ hk => by rw [keepP_nil] at hk; cases hk⟩)⟩
  have hnewlk : ∀ q ∈ L, lk ((outTrees avs args ++ resTrees d (isSingle res) 0 res) ++ del S st.h) q.1 = some q.2.1 := fun q hq => by
    rw [lk_append, hlk, lk_of_mem hLids hq]; rfl
  have hrtq : ∀ q ∈ L, mixv (outTrees avs args ++ resTrees d (isSingle res) 0 res) rtn rt q.1 = q.2.2.1 := fun q hq => by
    have : lk (outTrees avs args ++ resTrees d (isSingle res) 0 res) q.1 = some q.2.1 := by rw [hlk, lk_of_mem hLids hq]; rfl
    simp only [mixv, this, rtn, lk_of_mem hLids hq]
  -- one result
  have one : ∀ (k : Nat) (t : Tree) (v : Value), res[k]? = some t → rv[k]? = some v → AVok (md I' C.B) w' ((outTrees avs args ++ resTrees d (isSingle res) 0 res) ++ del S st.h) (mixv (outTrees avs args ++ resTrees d (isSingle res) 0 res) rtn rt) (mixv (outTrees avs args ++ resTrees d (isSingle res) 0 res) fpn fp)
      (bif t.1.pure then .val t.1 t.2 else .ref (resId d (isSingle res) (0 + k)) []) v := by
    intro k t v e1 e2
    have hkl : k < res.length := (List.getElem?_eq_some_iff.1 e1).1
    obtain ⟨e3, hr⟩ := hres k t css[k] hs[k] v e1 (by simp) (by simp) e2
    subst e3
    cases hpu : t.1.pure with
    | true =>
      simp only [cond_true]
      have := hr.pure hpu
      rw [this] at hr
      refine .val (hr.mono (fun m b hm => ⟨?_, Sm.refl _ _⟩) (by simp))
      cases m
      · exact hm
      · exact hm.elim .inl (fun h => h.elim)
    | false =>
      simp only [cond_false]
      have hm : (resId d (isSingle res) (0 + k), (t, css[k], hs[k])) ∈ L := List.mem_append_right _ (resL_mem lc1 lc2 k t css[k] hs[k] e1 (by simp) (by simp) hpu)
      refine .ref (t := t) (loc := none) (hnewlk _ hm) ?_
      have := hrtq _ hm
      rw [this]
      exact Nav.here
  refine hnext _ _ _ h rfl ⟨I', _, _, hu.put hdn (av := resAV d res) ?_⟩
  cases hres' : res with
  | nil =>
    have : rv = [] := List.eq_nil_of_length_eq_zero (by rw [lc3, hres']; rfl)
    subst this
    exact .tup (vs := #[]) rfl (fun i a v h => by simp [resAVs] at h)
  | cons t r =>
    cases r with
    | nil =>
      obtain ⟨v, rfl⟩ : ∃ v, rv = [v] := List.length_eq_one_iff.1 (by rw [lc3, hres']; rfl)
      have := one 0 t v (by rw [hres']; rfl) rfl
      rw [hres'] at this
      exact this
    | cons t2 r =>
      have hrv : retV rv = .tuple rv.toArray := by
        have : rv.length = (t :: t2 :: r).length := by rw [lc3, hres']
        match rv, this with
        | v1 :: v2 :: rv', _ => rfl
      rw [hrv]
      refine .tup (by simp [resAVs_len, lc3, hres']) (fun i av v h1 h2 => ?_)
      obtain ⟨t', e1, e2⟩ := resAVs_get h1
      have := one i t' v (by rw [hres']; exact e1) (by simpa using h2)
      rw [hres'] at this
      rw [e2]
      exact this
end
end Go.Fw
