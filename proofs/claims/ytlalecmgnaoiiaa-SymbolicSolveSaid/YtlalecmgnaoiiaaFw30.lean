/-
  The framework, part 30 (after 33, before 25): the interpreter of code, and that it is right.
-/
import Derived.Test.YtlalecmgnaoiiaaFw33
namespace Go.Fw

inductive JM where
  | none
  | x (l : List Nat) (sh : Shp)
  | xr (l : List Nat) (sh : Shp)
inductive LM where
  | r
  | x (id : Nat) (sh : Shp)
  | xr (id : Nat) (sh : Shp)

/-- What the interpreter is told on the code. -/
inductive Ann where
  | leaf
  | one (a : Ann)
  | two (j : JM) (a b : Ann)
  | loop (sh : Shp) (m : LM) (a : Ann)
  | keep (l : List Nat) (a : Ann)
  | fz (F : List Nat) (a : Ann)
  | draw (fm : List (Nat × List Nat × List Nat)) (L : List Nat)

/-- What an operation of a drawn region looks at and touches, of a table. -/
def ftF (fm : List (Nat × List Nat × List Nat)) (i : Nat) : List Nat := match lk fm i with
  | some q => q.1
  | none => []
def moF (fm : List (Nat × List Nat × List Nat)) (i : Nat) : List Nat := match lk fm i with
  | some q => q.2
  | none => []

def blkE {β : Type} (id : Nat) (K : Exit → St → Option β) : Exit → St → Option β
  | .exit j, s => match Nat.beq j id with
    | true => K .normal s
    | false => K (.exit j) s
  | e, s => K e s

def joinX {σ : Type} (sh : St → Option σ) : Exit → St → Option σ
  | .normal, s => sh s
  | _, _ => none
def joinXR {σ β : Type} (sh : St → Option σ) (K : Exit → St → Option β) : Exit → St → Option (σ ⊕ β)
  | .normal, s => (sh s).map .inl
  | e, s => (K e s).map .inr
def seqE {β : Type} (y : St → Option β) (K : Exit → St → Option β) : Exit → St → Option β
  | .normal, s => y s
  | e, s => K e s

def lpR {σ β : Type} (sh : St → Option σ) (K : Exit → St → Option β) : Exit → St → Option (σ ⊕ β)
  | .normal, s => (sh s).map .inl
  | e, s => (K e s).map .inr
def lpX {σ τ : Type} (sh : St → Option σ) (id : Nat) (xs : St → Option τ) : Exit → St → Option (σ ⊕ τ)
  | .normal, s => (sh s).map .inl
  | .exit j, s => match Nat.beq j id with
    | true => (xs s).map .inr
    | false => none
  | _, _ => none
def lpXR {σ τ β : Type} (sh : St → Option σ) (id : Nat) (xs : St → Option τ) (K : Exit → St → Option β) : Exit → St → Option (σ ⊕ (τ ⊕ β))
  | .normal, s => (sh s).map .inl
  | .exit j, s => match Nat.beq j id with
    | true => (xs s).map fun q => .inr (.inl q)
    | false => (K (.exit j) s).map fun q => .inr (.inr q)
  | e, s => (K e s).map fun q => .inr (.inr q)

noncomputable def iC : IC → Ann → Code → St → (β : Type) → (Exit → St → Option β) → Option β
  | ic, .leaf, c, st, _, K => match c with
    | .skip => K .normal st
    | .exit id => K (.exit id) st
    | .ret => K .ret st
    | .region _ ops false => iL ic ops (List.range ops.size) st (K .normal)
    | _ => none
  | ic, .one a, c, st, β, K => match c with
    | .block id x => iC ic a x st β (blkE id K)
    | _ => none
  | ic, .two j a b, c, st, β, K => match c with
    | .seq x y => match j with
      | .none => iC ic a x st β (seqE (fun s => iC ic b y s β K) K)
      | .x l sh => match keepG st.g l with
        | some r => (iC { ic with pin := l ++ ic.pin, kg := r ++ ic.kg } a x st sh.den (joinX (proj sh))).bind fun q => iC ic b y (embK { ic with pin := l ++ ic.pin, kg := r ++ ic.kg } sh q) β K
        | none => none
      | .xr l sh => match keepG st.g l with
        | some r => (iC { ic with pin := l ++ ic.pin, kg := r ++ ic.kg } a x st (sh.den ⊕ β) (joinXR (proj sh) K)).bind fun
          | .inl q => iC ic b y (embK { ic with pin := l ++ ic.pin, kg := r ++ ic.kg } sh q) β K
          | .inr r => some r
        | none => none
    | .cond t x y => match opA st.g t with
      | .val .bool v => match v with
        | true => iC ic a x st β K
        | false => iC ic b y st β K
      | _ => none
    | _ => none
  | ic, .loop sh m a, c, st, β, K => match c with
    | .loop x => (proj sh st).bind fun s0 => match m with
      | .r => (loop (fun s => iC ic a x (embK ic sh s) (sh.den ⊕ β) (lpR (proj sh) K)) s0).bind some
      | .x id xsh => (loop (fun s => iC ic a x (embK ic sh s) (sh.den ⊕ xsh.den) (lpX (proj sh) id (proj xsh))) s0).bind fun q => K (.exit id) (embK ic xsh q)
      | .xr id xsh => (loop (fun s => iC ic a x (embK ic sh s) (sh.den ⊕ (xsh.den ⊕ β)) (lpXR (proj sh) id (proj xsh) K)) s0).bind fun
        | .inl q => K (.exit id) (embK ic xsh q)
        | .inr r => some r
    | _ => none
  | ic, .draw fm L, c, st, _, K => match c with
    | .region _ ops true => bif chkD ops (ftF fm) (moF fm) L then iD ic ops (ftF fm) (moF fm) L st (K .normal) else none
    | _ => none
  | ic, .fz F a, c, st, β, K => bif canFrz st.h F then iC ic a c (frzS F st) β K else none
  | ic, .keep l a, c, st, β, K => match keepG st.g l with
    | some r => iC { ic with pin := l ++ ic.pin, kg := r ++ ic.kg } a c st β K
    | none => none

section
variable {E : Env} {C : Ctx} {ic : IC} {β : Type}

theorem J.post {kg : List (Nat × AV)} (hk : KG C kg) {c : Code} {st : St} {R : Exit → St → Prop} (h : J E C c st (fun e s => R e s ∨ ∃ (s' s'' : St), R e s' ∧ s' = ⟨kg ++ s''.g, s''.h⟩ ∧ covG s''.g s ∧ covH s''.h s ∧ idsIn s''.g s''.h = true)) : J E C c st R :=
  fun a w hR hd => wp_mono (h a w hR hd) (fun _ _ _ ⟨s, h1, h5, h6⟩ => by
    rcases h1 with h1 | ⟨s', s'', h1, rfl, h2, h3, h4⟩
    · exact ⟨s, h1, h5, h6⟩
    · exact ⟨_, h1, (h5.cov h2 h3 h4).kg hk, h6⟩)

theorem iC_sound : ∀ {an : Ann} {C : Ctx} {ic : IC} {c : Code} {st : St} {β : Type} {K : Exit → St → Option β} {r : β} {Q : Exit → St → Prop}, ic.Ok E C → iC ic an c st β K = some r → (∀ e s, K e s = some r → Q e s) → J E C c st Q
  | .leaf, C, ic, c, st, β, K, r, Q, hic, h, hK => by
      simp only [iC] at h
      split at h
      · exact J.skip (hK _ _ h)
      · exact J.exit (hK _ _ h)
      · exact J.ret (hK _ _ h)
      · exact J.region (iL_sound hic (fun s hs => hK _ s hs) h)
      · cases h
  | .one a, C, ic, c, st, β, K, r, Q, hic, h, hK => by
      simp only [iC] at h
      split at h
      · refine J.block (iC_sound hic h ?_)
        intro e s hs
        cases e with
        | exit j =>
          simp only [blkE] at hs
          simp only [blockK]
          split at hs
          · rename_i hj; rw [hj]; exact hK _ _ hs
          · rename_i hj; rw [hj]; exact hK _ _ hs
        | _ => exact hK _ _ hs
      · cases h
  | .two j a b, C, ic, c, st, β, K, r, Q, hic, h, hK => by
      simp only [iC] at h
      split at h
      · rename_i x y
        refine J.seq ?_
        split at h
        · refine iC_sound hic h ?_
          intro e s hs
          cases e with
          | normal => exact iC_sound hic hs hK
          | _ => exact hK _ _ hs
        · rename_i l sh
          split at h
          case h_2 => cases h
          rename_i r' hr'
          obtain ⟨q, hq, h⟩ := Option.bind_eq_some_iff.1 h
          refine J.keep hic.2.2.2.2 hr' (fun C' h1 h2 h3 => J.post h3 (iC_sound (ic := { ic with pin := l ++ ic.pin, kg := r' ++ ic.kg }) ⟨hic.1, hic.2.1.trans h1.symm, by rw [h2, ← hic.2.2.1], hic.2.2.2.1, h3⟩ hq ?_))
          intro e s hs
          cases e with
          | normal => exact .inr ⟨_, _, iC_sound hic h hK, rfl, proj_ok hs⟩
          | _ => cases hs
        · rename_i l sh
          split at h
          case h_2 => cases h
          rename_i r' hr'
          obtain ⟨q, hq, h⟩ := Option.bind_eq_some_iff.1 h
          refine J.keep hic.2.2.2.2 hr' (fun C' h1 h2 h3 => J.post h3 (iC_sound (ic := { ic with pin := l ++ ic.pin, kg := r' ++ ic.kg }) ⟨hic.1, hic.2.1.trans h1.symm, by rw [h2, ← hic.2.2.1], hic.2.2.2.1, h3⟩ hq ?_))
          intro e s hs
          cases e with
          | normal =>
            obtain ⟨q', hs2, hq'⟩ := Option.map_eq_some_iff.1 hs
            cases hq'
            exact .inr ⟨_, _, iC_sound hic h hK, rfl, proj_ok hs2⟩
          | _ =>
            obtain ⟨q', hs2, hq'⟩ := Option.map_eq_some_iff.1 hs
            cases hq'
            cases h
            exact .inl (hK _ _ hs2)
      · rename_i t x y
        split at h
        · rename_i v hv
          refine J.cond hv (fun e => ?_) (fun e => ?_)
          · subst e; exact iC_sound hic h hK
          · subst e; exact iC_sound hic h hK
        · cases h
      · cases h
  | .loop sh m a, C, ic, c, st, β, K, r, Q, hic, h, hK => by
      simp only [iC] at h
      split at h
      case h_2 => cases h
      rename_i x
      obtain ⟨s0, h0, h⟩ := Option.bind_eq_some_iff.1 h
      obtain ⟨p1, p2, p3⟩ := proj_ok h0
      refine J.post hic.2.2.2.2 ?_
      cases m with
      | r =>
        refine J.loop (emb sh) h p1 p2 p3 ?_
        intro s o hf ho
        refine J.kg hic.2.2.2.2 (iC_sound hic hf ?_)
        intro e s' hs
        cases e with
        | normal =>
          obtain ⟨q, hs2, hq'⟩ := Option.map_eq_some_iff.1 hs
          cases hq'
          exact ⟨rfl, proj_ok hs2⟩
        | _ =>
          obtain ⟨q, hs2, hq'⟩ := Option.map_eq_some_iff.1 hs
          cases hq'
          cases ho
          exact ⟨(fun h => by cases h), .inl (hK _ _ hs2)⟩
      | x id xsh =>
        refine J.loop (emb sh) h p1 p2 p3 ?_
        intro s o hf ho
        refine J.kg hic.2.2.2.2 (iC_sound hic hf ?_)
        intro e s' hs
        cases e with
        | normal =>
          obtain ⟨q, hs2, hq'⟩ := Option.map_eq_some_iff.1 hs
          cases hq'
          exact ⟨rfl, proj_ok hs2⟩
        | exit j =>
          simp only [lpX] at hs
          split at hs
          · rename_i hj
            obtain rfl := Nat.eq_of_beq_eq_true hj
            obtain ⟨q, hs2, hq'⟩ := Option.map_eq_some_iff.1 hs
            cases hq'
            exact ⟨(fun h => by cases h), .inr ⟨_, _, hK _ _ ho, rfl, proj_ok hs2⟩⟩
          · cases hs
        | _ => cases hs
      | xr id xsh =>
        refine J.loop (emb sh) h p1 p2 p3 ?_
        intro s o hf ho
        refine J.kg hic.2.2.2.2 (iC_sound hic hf ?_)
        intro e s' hs
        cases e with
        | normal =>
          obtain ⟨q, hs2, hq'⟩ := Option.map_eq_some_iff.1 hs
          cases hq'
          exact ⟨rfl, proj_ok hs2⟩
        | exit j =>
          simp only [lpXR] at hs
          split at hs
          · rename_i hj
            obtain rfl := Nat.eq_of_beq_eq_true hj
            obtain ⟨q, hs2, hq'⟩ := Option.map_eq_some_iff.1 hs
            cases hq'
            exact ⟨(fun h => by cases h), .inr ⟨_, _, hK _ _ ho, rfl, proj_ok hs2⟩⟩
          · obtain ⟨q, hs2, hq'⟩ := Option.map_eq_some_iff.1 hs
            cases hq'
            cases ho
            exact ⟨(fun h => by cases h), .inl (hK _ _ hs2)⟩
        | _ =>
          obtain ⟨q, hs2, hq'⟩ := Option.map_eq_some_iff.1 hs
          cases hq'
          cases ho
          exact ⟨(fun h => by cases h), .inl (hK _ _ hs2)⟩
  | .draw fm L, C, ic, c, st, β, K, r, Q, hic, h, hK => by
      simp only [iC] at h
      split at h
      case h_2 => cases h
      rename_i id ops
      cases hb : chkD ops (ftF fm) (moF fm) L with
      | false => rw [hb] at h; cases h
      | true =>
      rw [hb] at h
      exact J.draw E.mix hic hb h (fun s hs => hK _ s hs)
  | .fz F a, C, ic, c, st, β, K, r, Q, hic, h, hK => by
      simp only [iC] at h
      cases hb : canFrz st.h F with
      | false => rw [hb] at h; cases h
      | true =>
      rw [hb] at h
      intro aa w hR hd
      obtain ⟨I, rt, fp, hR⟩ := hR
      exact iC_sound hic h hK aa w (hR.freeze (canFrz.ok hb)) hd
  | .keep l a, C, ic, c, st, β, K, r, Q, hic, h, hK => by
      simp only [iC] at h
      split at h
      case h_2 => cases h
      rename_i q hq
      refine J.keep hic.2.2.2.2 hq ?_
      intro C' h1 h2 h3
      exact iC_sound (ic := { ic with pin := l ++ ic.pin, kg := q ++ ic.kg }) ⟨hic.1, hic.2.1.trans h1.symm, by rw [h2, ← hic.2.2.1], hic.2.2.2.1, h3⟩ h hK
end
end Go.Fw
