/-
  The framework, part 16: append, all forms.
-/
import Derived.Test.YtlalecmgnaoiiaaFw15
namespace Go.Fw

section
variable {E : Env} {C : Ctx} {st : St} {a : Act} {tm : Array Value} {w : World} {I : Nat → Prop} {rt : Nat → List Value} {fp : Nat → List Nat} {o : Oper} {Q : St → Prop}

theorem append_place {T : TypeId} {x y : Operand} {d : Nat} (ho : o.op = .call { callee := .builtin .append, args := #[x, y], argTypes := #[T, T] }) (hd : o.dst = some d) (hdn : C.ok d) (hR : RelAt C st a.tmps w I rt fp)
    {next : Act → World → Prop} {X : Exit → Act → World → Prop} (hnext : ∀ st' a' w', Q st' → a'.defers = a.defers → Rel C st' a'.tmps w' → next a' w')
    {u σ : Ty} (hT : isSlcT E.tt T = some u) (hl : sameLay u σ = true) (hsz : σ.size ≤ 1300) (hnb : σ.nb = true) {id : Nat} {p : List Step} (hex : opA st.g x = .ref id p) {τ : Ty} {z : τ.den} (ht : lk st.h id = some ⟨τ, z⟩) (hdf : lk st.h d = none)
    {xs ys : List σ.den} (hg : GetP τ z p (.osl σ) xs) (hy : YOk I C.B w σ (a.eval y) ys) (hlim : xs.length + ys.length ≤ lim)
    (hq : Q ⟨(d, .app id p σ ys [d]) :: kill [id] [(id, [])] st.g, (d, ⟨.blk, ()⟩) :: (id, ⟨τ, z⟩) :: del [id] st.h⟩) : o.wp E.P a w next X := by
  obtain ⟨i, SS, h1, h5, h6⟩ := isSlcT.ok hT
  have h6' := h6.lay hl
  obtain ⟨ie, _, q5, _⟩ := h6'.info
  have hx := hR.opA x
  rw [hex] at hx
  generalize hvx : a.eval x = vx at hx
  cases hx with | ref ht' hn =>
  rename_i τ' loc cs
  rw [ht] at ht'; cases ht'
  simp only at hn
  obtain ⟨r1, r2, r3⟩ := hR.tree id _ ht
  obtain ⟨loc', cs1, f', rest, g1, g2, g3, g4, g5, g6⟩ := focus p (loc := none) r1 (fun _ _ h => by cases h) r2 (fun _ _ h => by cases h) (hR.notM ht) hg
  obtain ⟨e0, e1, e2⟩ := hn.det g1
  subst e0; subst e1; subst e2
  have hnd2 := g4.nodup_iff.1 r2
  rw [List.nodup_append] at hnd2
  obtain ⟨hn1, hn2, hn3⟩ := hnd2
  obtain ⟨ad, cap, rfl, _⟩ := (show Rep (md I C.B) w (.osl σ) cs xs f' from g2)
  obtain ⟨yd, c, fys, hyv, hey, hfy⟩ := hy
  have hsubf : ∀ b ∈ f', b ∈ fp id := fun b hb => g4.mem_iff.2 (by simp [hb])
  have hlt : ∀ b ∈ fp id, b < w.heap.size ∧ ∀ m, ¬ md I C.B m b := fun b hb => ⟨(r3 b hb).2.2.1, hR.notM ht b hb⟩
  obtain ⟨v', w', f2, s1, s2, s3, s4, s5, s6, s7, s8, s9, s10, s11, _⟩ := append_core (P := E.P) (ty := o.type) h5 h6' q5.info hsz g2 (c := c) hey hn1 (fun b hb => (hlt b (hsubf b hb)).2) (by rw [hfy]; simp) (by rw [hfy]; simp)
    (fun m b hm => hR.ib b (md_or hm)) (fun b hb => (hlt b (hsubf b hb)).1) (by rw [hfy]; simp) hlim
  have hrun : (execOp a.eval o).run E.P w = .ok (.value v') w' := app_run (E := E) ho (by rw [hvx, hyv]; exact s1)
  -- the tree itself reads as it did
  have hrest : ∀ b ∈ rest, b < w.heap.size ∧ b ∉ f' := fun b hb => ⟨(hlt b (g4.mem_iff.2 (by simp [hb]))).1, fun h => hn3 b h b hb rfl⟩
  have hsm : ∀ b, (∃ m, md I C.B m b) ∨ b ∈ rest → Sm w w' b := fun b hb => by
    rcases hb with ⟨m, hm⟩ | hb
    · exact s11 m b hm
    · exact .of_heap (s10 b (hrest b hb).1 (hrest b hb).2)
  have hatl : ∀ b o', loc = some (b, o') → At w' b o' [.slice ad xs.length cap] := fun b o' e => by
    have hb : b ∈ rest := by
      rcases g5 b o' e with ⟨q, h, _⟩ | h
      · cases h
      · exact h
    exact (g3 b o' e).1.sm (hsm b (.inr hb))
  obtain ⟨cs3, f3, k1, _, k2, _, k3, k9⟩ := g6 w' (md I C.B) [.slice ad xs.length cap] xs f' z (fun _ _ h => h) (fun b hb => by
    have hs : Sm w w' b := hsm b (by
      rcases hb with h | h | ⟨o', h⟩
      · exact .inl h
      · exact .inr h
      · cases h)
    exact ⟨fun j _ => (hs j).1, fun j => (hs j).2, fun j => by rw [(hs j).1]⟩) s3 (fun _ _ => rfl) hatl (SetP.same hg)
  obtain rfl := k2 rfl (.inr rfl)
  have hf3 : f3.Perm (fp id) := k3.trans g4.symm
  have hne : d ≠ id := fun e => by rw [e, ht] at hdf; cases hdf
  have hfresh : ∀ b ∈ f2, b ∈ f' ∨ (w.heap.size ≤ b ∧ b < w'.heap.size) := fun b hb => by
    rcases s5 b hb with h | h | h
    · exact .inl h
    · rw [hfy] at h; cases h
    · exact .inr h
  -- the new blocks
  let fd := f2.filter fun b => decide (w.heap.size ≤ b)
  have hfd : ∀ b ∈ fd, w.heap.size ≤ b ∧ b < w'.heap.size := fun b hb => by
    have hb' := List.mem_filter.1 hb
    have h1 : w.heap.size ≤ b := by simpa using hb'.2
    rcases hfresh b hb'.1 with h | h
    · have := (hlt b (hsubf b h)).1; omega
    · exact h
  have hu := hR.upd (S := [id]) (keep := [(id, [])]) (new := [(d, ⟨.blk, ()⟩), (id, ⟨τ, z⟩)]) (rtn := fun i => if i = d then [] else rt id) (fpn := fun i => if i = d then fd else f3) (w' := w') (I' := I)
    ⟨s6, s7, s8, s9, fun b hb hS => s10 b hb (fun h => hS id (by simp) _ ht (hsubf b h)), fun _ h => h, fun _ h => .inl h, (by
      intro i t' hi
      rw [lk_cons] at hi
      split at hi
      · rename_i e; subst e
        cases hi
        refine ⟨.inr hdf, (by simp only [if_true]; exact rfl), (by simp only [if_true]; exact s4.filter _), fun b hb => ?_⟩
        simp only [if_true] at hb
        obtain ⟨q1, q2⟩ := hfd b hb
        exact ⟨fun hI => by have := hR.ib b (.inl hI); omega, q2, .inl q1⟩
      · rw [lk_cons] at hi
        split at hi
        · rename_i _ e; subst e
          cases hi
          have hne' : ¬ (id = d) := fun e => hne e.symm
          refine ⟨.inl (by simp), (by simp only [if_neg hne']; exact k1), (by simp only [if_neg hne']; rw [hf3.nodup_iff]; exact r2), fun b hb => ?_⟩
          simp only [if_neg hne'] at hb
          rw [hf3.mem_iff] at hb
          exact ⟨(r3 b hb).1, by have := (r3 b hb).2.2.1; omega, .inr ⟨id, by simp, _, ht, hb⟩⟩
        · cases hi), (by
      intro i j t1 t2 hi hj hij b hb
      have hcase : ∀ k t', lk [(d, (⟨.blk, ()⟩ : Tree)), (id, ⟨τ, z⟩)] k = some t' → k = d ∨ k = id := fun k t' hk => by
        rw [lk_cons] at hk
        split at hk
        · rename_i e; exact .inl e.symm
        · rw [lk_cons] at hk
          split at hk
          · rename_i _ e; exact .inr e.symm
          · cases hk
      have hne' : ¬ (id = d) := fun e => hne e.symm
      rcases hcase i t1 hi with rfl | rfl <;> rcases hcase j t2 hj with rfl | rfl
      · exact absurd rfl hij
      · simp only [if_true] at hb
        simp only [if_neg hne']
        rw [hf3.mem_iff]
        intro h
        have := (hlt b h).1
        have := (hfd b hb).1
        omega
      · simp only [if_neg hne'] at hb
        simp only [if_true]
        rw [hf3.mem_iff] at hb
        intro h
        have := (hlt b hb).1
        have := (hfd b h).1
        omega
      · exact absurd rfl hij), (by
      intro i hi t' ht'
      simp only [List.mem_singleton] at hi
      subst hi
      have ht' : lk st.h id = some t' := ht'
      rw [ht] at ht'
      obtain rfl := Option.some.inj ht'
      have hne' : ¬ (id = d) := fun e => hne e.symm
      exact ⟨⟨τ, z⟩, by rw [lk_cons, if_neg hne, lk_cons, if_pos rfl], rfl, by simp only [if_neg hne'], fun q _ _ _ hk => by rw [keepP_nil] at hk; cases hk⟩)⟩
  unfold Oper.wp
  rw [hrun]
  show next (a.put o.dst v') w'
  rw [hd]
  refine hnext _ _ _ hq rfl ⟨I, _, _, hu.put hdn (av := .app id p σ ys [d]) ?_⟩
  have hne' : ¬ (id = d) := fun e => hne e.symm
  have l1 : lk ([(d, (⟨.blk, ()⟩ : Tree)), (id, ⟨τ, z⟩)] ++ del [id] st.h) id = some ⟨τ, z⟩ := by rw [lk_append, lk_cons, if_neg hne, lk_cons, if_pos rfl]; rfl
  have l2 : lk ([(d, (⟨.blk, ()⟩ : Tree)), (id, ⟨τ, z⟩)] ++ del [id] st.h) d = some ⟨.blk, ()⟩ := by rw [lk_append, lk_cons, if_pos rfl]; rfl
  have m1 : lk [(d, (⟨.blk, ()⟩ : Tree)), (id, ⟨τ, z⟩)] id = some ⟨τ, z⟩ := by rw [lk_cons, if_neg hne, lk_cons, if_pos rfl]
  have m2 : lk [(d, (⟨.blk, ()⟩ : Tree)), (id, ⟨τ, z⟩)] d = some ⟨.blk, ()⟩ := by rw [lk_cons, if_pos rfl]
  have fpid : mixv [(d, (⟨.blk, ()⟩ : Tree)), (id, ⟨τ, z⟩)] (fun i => if i = d then fd else f3) fp id = f3 := by simp only [mixv, m1, if_neg hne']
  have fpd : mixv [(d, (⟨.blk, ()⟩ : Tree)), (id, ⟨τ, z⟩)] (fun i => if i = d then fd else f3) fp d = fd := by simp only [mixv, m2, if_true]
  have rtid : mixv [(d, (⟨.blk, ()⟩ : Tree)), (id, ⟨τ, z⟩)] (fun i => if i = d then [] else rt id) rt id = rt id := by simp only [mixv, m1, if_neg hne']
  -- the way to the place, in the new world
  have hnav : Nav w' τ none (rt id) p (.osl σ) loc [.slice ad xs.length cap] := k9.1
  refine .app (t := ⟨τ, z⟩) l1 hnb (by rw [rtid]; exact hnav) hg s3 (fun b hb => by rw [fpid, hf3.mem_iff]; exact hsubf b hb) s2 ?_ ?_ s4
  · intro i hi
    simp only [List.mem_singleton] at hi
    subst hi
    exact ⟨hne, _, l2⟩
  · intro b hb
    rcases hfresh b hb with h | h
    · exact .inl h
    · exact .inr ⟨d, by simp, by rw [fpd]; exact List.mem_filter.2 ⟨hb, by simpa using h.1⟩⟩
end
end Go.Fw
