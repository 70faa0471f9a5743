/-
  The framework, part 13: stores and assignments.
-/
import Derived.Test.YtlalecmgnaoiiaaFw12
namespace Go.Fw

theorem SetP.get : ∀ {p : List Step} {τ : Ty} {x x' : τ.den} {τ' : Ty} {y : τ'.den}, SetP τ x p τ' y x' → ∃ y0, GetP τ x p τ' y0
  | [], τ, x, _, _, _, h => by obtain ⟨rfl, _⟩ := SetP.nil_iff.1 h; exact ⟨x, GetP.nil_iff.2 ⟨rfl, rfl⟩⟩
  | s :: p, τ, _, _, _, _, h => by
      cases τ <;> cases s <;> simp only [SetP] at h
      case osl.idx => obtain ⟨e, e', he, h, _⟩ := h; obtain ⟨y0, h0⟩ := SetP.get (p := p) h; exact ⟨y0, e, he, h0⟩
      case optr.deref => exact SetP.get (p := p) h
      case st.unst => exact SetP.get (p := p) h
      case pr.fst => obtain ⟨e', h, _⟩ := h; exact SetP.get (p := p) h
      case pr.snd => obtain ⟨e', h, _⟩ := h; exact SetP.get (p := p) h

theorem SetP.same : ∀ {p : List Step} {τ : Ty} {x : τ.den} {τ' : Ty} {y : τ'.den}, GetP τ x p τ' y → SetP τ x p τ' y x
  | [], τ, x, _, _, h => by obtain ⟨rfl, rfl⟩ := GetP.nil_iff.1 h; exact SetP.nil_iff.2 ⟨rfl, rfl⟩
  | s :: p, τ, x, _, _, h => by
      cases τ <;> cases s <;> simp only [GetP] at h
      case osl.idx i =>
        obtain ⟨e, he, h⟩ := h
        refine ⟨e, e, he, SetP.same (p := p) h, ?_⟩
        obtain ⟨hi, rfl⟩ := List.getElem?_eq_some_iff.1 he
        exact (List.set_getElem_self hi).symm
      case optr.deref => exact SetP.same (p := p) h
      case st.unst => exact SetP.same (p := p) h
      case pr.fst => exact ⟨x.1, SetP.same (p := p) h, rfl⟩
      case pr.snd => exact ⟨x.2, SetP.same (p := p) h, rfl⟩

theorem mixv_one {d : Nat} {t : Tree} {α : Type} {a : α} {b : Nat → α} : mixv [(d, t)] (fun _ => a) b d = a := by simp [mixv, lk_cons]

section
variable {E : Env} {C : Ctx} {st : St} {a : Act} {tm : Array Value} {w : World} {I : Nat → Prop} {rt : Nat → List Value} {fp : Nat → List Nat} {o : Oper}

theorem setCells_chg {b o' n : Nat} {cs : List Value} (hl : cs.length = n) (hfr : Fr w b o' (o' + n)) (c : Nat) : Chg w (w.setCells b o' cs) (some (b, o')) n c := by
  have hsome : ∀ j, j < cs.length → (w.cell? ⟨b, o' + j, none⟩).isSome = true := fun j hj => (hfr _ (by omega) (by omega)).1
  refine ⟨fun j hj => World.cell?_setCells_out b cs o' w _ (fun e _ => ?_), fun j => World.frozen?_setCells _ _ _ _ _, fun j => ?_⟩
  · have e : c = b := e
    have := hj o' (by rw [e])
    simp only; omega
  · by_cases e : c = b
    · subst e; exact setCells_some c cs o' w hsome j
    · rw [((setCells_sm (w := w) (o := o') (vs := cs) e) j).1]

/-- A write at a place of a tree. -/
theorem RelAt.store (hR : RelAt C st tm w I rt fp) {id : Nat} {t : Tree} (ht : lk st.h id = some t) {p : List Step} {τ' : Ty} {b o' : Nat} {cs0 : List Value} (hn : Nav w t.1 none (rt id) p τ' (some (b, o')) cs0) {y : τ'.den} {x' : t.1.den}
    (hs : SetP t.1 t.2 p τ' y x') {cs' : List Value} {fy S2 : List Nat} (hy : Rep (md I C.B) w τ' cs' y fy) (hnd : fy.Nodup) (hS2 : id ∉ S2)
    (hfy : ∀ c ∈ fy, (∃ f1, ∃ y0 : τ'.den, τ'.nb = true ∧ Rep (md I C.B) w τ' cs0 y0 f1 ∧ c ∈ f1) ∨ ∃ i ∈ S2, ∃ u, lk st.h i = some u ∧ c ∈ fp i) :
    Fr w b o' (o' + τ'.size) ∧ ∃ rtn fpn, RelAt C ⟨kill (id :: S2) [(id, p)] st.g, (id, ⟨t.1, x'⟩) :: del (id :: S2) st.h⟩ tm (w.setCells b o' cs') I rtn fpn := by
  obtain ⟨hr, hnodup, hblk⟩ := hR.tree id t ht
  obtain ⟨y0, hg⟩ := hs.get
  obtain ⟨loc', cs1, f', rest, g1, g2, g3, g4, g5, g6⟩ := focus p (loc := none) hr (fun _ _ h => by cases h) hnodup (fun _ _ h => by cases h) (hR.notM ht) hg
  obtain ⟨_, e1, e2⟩ := hn.det g1
  subst e1; subst e2
  obtain ⟨_, hfr⟩ := g3 b o' rfl
  have hbrest : b ∈ rest := by
    rcases g5 b o' rfl with ⟨q, h, _⟩ | h
    · cases h
    · exact h
  have hbfp : b ∈ fp id := g4.mem_iff.2 (by simp [hbrest])
  have hnd2 := g4.nodup_iff.1 hnodup
  rw [List.nodup_append] at hnd2
  obtain ⟨hn1, hn2, hn3⟩ := hnd2
  have hcl : ∀ c ∈ fy, c ∈ f' ∨ ∃ i ∈ S2, ∃ u, lk st.h i = some u ∧ c ∈ fp i := fun c hc => by
    rcases hfy c hc with ⟨f1, y1, hb, hr1, h⟩ | h
    · rw [← Rep.uniq hb g2 hr1] at h; exact .inl h
    · exact .inr h
  have hother : ∀ i ∈ S2, ∀ u, lk st.h i = some u → ∀ c ∈ fp i, c ∉ fp id := fun i hi u hu c hc hc' => hR.dis i id u t hu ht (fun e => hS2 (e ▸ hi)) c hc hc'
  have hfyb : ∀ c ∈ fy, c ∉ rest := fun c hc hc' => by
    rcases hcl c hc with h | ⟨i, hi, u, hu, h⟩
    · exact hn3 c h c hc' rfl
    · exact hother i hi u hu c h (g4.mem_iff.2 (by simp [hc']))
  have hMb : ∀ m c, md I C.B m c → c ≠ b := fun m c hc e => hR.notM ht b hbfp m (e ▸ hc)
  have hchg := setCells_chg (w := w) hy.len hfr
  have hyw : Rep (md I C.B) (w.setCells b o' cs') τ' cs' y fy := hy.mono (fun m c hc => ⟨hc, setCells_sm (hMb m c hc)⟩) (fun c hc => setCells_sm (fun e => hfyb c hc (by rw [e]; exact hbrest)))
  have hsome : ∀ j, j < cs'.length → (w.cell? ⟨b, o' + j, none⟩).isSome = true := fun j hj => (hfr _ (by omega) (by have := hy.len; omega)).1
  have hat : At (w.setCells b o' cs') b o' cs' := fun j v hj => by
    have hj' : j < cs'.length := (List.getElem?_eq_some_iff.1 hj).1
    rw [World.cell?_setCells_in b cs' o' w hsome j hj']
    rw [List.getElem?_eq_getElem hj'] at hj; exact hj
  obtain ⟨cs3, f3, k1, _, k2, _, k3, _, k10⟩ := g6 (w.setCells b o' cs') (md I C.B) cs' y fy x' (fun _ _ h => h) (fun c _ => hchg c) hyw (fun h => by cases h) (fun b1 o1 e => by simp only [Option.some.injEq, Prod.mk.injEq] at e; obtain ⟨rfl, rfl⟩ := e; exact hat) hs
  obtain rfl := k2 rfl (.inl (by simp))
  have hf3 : ∀ c ∈ f3, c ∈ fp id ∨ ∃ i ∈ S2, ∃ u, lk st.h i = some u ∧ c ∈ fp i := fun c hc => by
    rcases List.mem_append.1 (k3.mem_iff.1 hc) with h | h
    · rcases hcl c h with h | h
      · exact .inl (g4.mem_iff.2 (by simp [h]))
      · exact .inr h
    · exact .inl (g4.mem_iff.2 (by simp [h]))
  refine ⟨hfr, _, _, hR.upd (S := id :: S2) (keep := [(id, p)]) (new := [(id, ⟨t.1, x'⟩)]) (rtn := fun _ => rt id) (fpn := fun _ => f3) (w' := w.setCells b o' cs') (I' := I) ⟨?_, (setCells_rest _ _ _ _).1, (setCells_rest _ _ _ _).2.1, (setCells_rest _ _ _ _).2.2, ?_, fun _ h => h, fun _ h => .inl h, ?_, ?_, ?_⟩⟩
  · rw [setCells_size]; exact Nat.le_refl _
  · intro c _ hc
    exact setCells_ne b _ _ _ c (fun e => hc id (by simp) t ht (e ▸ hbfp))
  · intro i u hu
    rw [lk_cons] at hu
    split at hu
    · rename_i e
      subst e
      cases hu
      refine ⟨.inl (by simp), k1, ?_, fun c hc => ?_⟩
      · rw [k3.nodup_iff, List.nodup_append]
        exact ⟨hnd, hn2, fun x hx z hz e => hfyb x hx (e ▸ hz)⟩
      · rcases hf3 c hc with h | ⟨i, hi, u, hu, h⟩
        · obtain ⟨q1, q2, q3, q4⟩ := hblk c h
          exact ⟨q1, by rw [setCells_size]; exact q3, .inr ⟨id, by simp, t, ht, h⟩⟩
        · obtain ⟨q1, q2, q3, q4⟩ := (hR.tree i u hu).2.2 c h
          exact ⟨q1, by rw [setCells_size]; exact q3, .inr ⟨i, by simp [hi], u, hu, h⟩⟩
    · cases hu
  · intro i j u v hi hj hij
    rw [lk_cons] at hi hj
    split at hi
    · split at hj
      · rename_i e1 e2; exact absurd (e1.symm.trans e2) hij
      · cases hj
    · cases hi
  · intro i hi u hu
    simp only [List.mem_singleton] at hi
    subst hi
    rw [ht] at hu
    obtain rfl := Option.some.inj hu
    refine ⟨⟨t.1, x'⟩, ?_, rfl, rfl, k10⟩
    rw [lk_cons, if_pos rfl]

inductive SRes where
  | tot (s : St)
  | part (α : Type) (φ : α → Prop) (f : α → St)
  | bad

def SRes.K (r : SRes) (Q : St → Prop) : Prop :=
  match r with
  | .tot s => Q s
  | .part α φ f => ∃ y : α, φ y ∧ Q (f y)
  | .bad => False

/-- One operation, from an abstract state to those of Q. -/
def OK1 (E : Env) (C : Ctx) (o : Oper) (st : St) (Q : St → Prop) : Prop :=
  ∀ (a : Act) (w : World), Rel C st a.tmps w → ∀ (next : Act → World → Prop) (X : Exit → Act → World → Prop),
    (∀ st' a' w', Q st' → a'.defers = a.defers → Rel C st' a'.tmps w' → next a' w') → o.wp E.P a w next X

variable {Q : St → Prop}

theorem OK1.eval {an : List (Nat × Ty)} {d : Nat} (hd : o.dst = some d) (hdn : C.ok d) (h : (evalF E.tt an st.h (opA st.g) d o.op).K (fun av new => Q ⟨(d, av) :: st.g, new ++ st.h⟩)) : OK1 E C o st Q := by
  rintro a w ⟨I, rt, fp, hR⟩ next X hn
  exact (evalF_sound hR h).wp hR hd hdn (fun av new a' w' hq hdf hr => hn _ a' w' hq hdf hr)

/-- The place that an address names. -/
def placeOf (h : List (Nat × Tree)) (x : AV) : Option (Nat × List Step) :=
  match x with
  | .addr id p => some (id, p)
  | .ref id p => match lk h id with
    | some ⟨τ, _⟩ => match tyAt τ p with
      | some (.optr _) => some (id, p ++ [.deref])
      | _ => none
    | none => none
  | _ => none

def stepBeq : List Step → List Step → Bool
  | [], [] => true
  | .idx i :: p, .idx j :: q => (if i = j then true else false) && stepBeq p q
  | .deref :: p, .deref :: q | .unst :: p, .unst :: q | .fst :: p, .fst :: q | .snd :: p, .snd :: q => stepBeq p q
  | _, _ => false

/-- A store. -/
def stoF (tt : List (TypeId × Ty)) (st : St) (T : TypeId) (x v : AV) : SRes :=
  match placeOf st.h x with
  | none => .bad
  | some (id, p) => match lk st.h id, lk tt T with
    | some ⟨τ, z⟩, some u => match tyAt τ p with
      | none => .bad
      | some τ' => bif sameLay u τ' then match v with
        | .ref id2 p2 => match lk st.h id2 with
          | some ⟨τ2, y⟩ => bif Nat.beq id id2 then .bad else
              .part (τ'.den × τ.den) (fun q => GetP τ2 y p2 τ' q.1 ∧ SetP τ z p τ' q.1 q.2) (fun q => ⟨kill [id, id2] [(id, p)] st.g, (id, ⟨τ, q.2⟩) :: del [id, id2] st.h⟩)
          | none => .bad
        | .app id2 p2 σ ys own => if _e : τ' = .osl σ then
            .part (List σ.den × τ.den) (fun q => id2 = id ∧ p2 = p ∧ GetP τ z p (.osl σ) q.1 ∧ SetP τ z p (.osl σ) (q.1 ++ ys) q.2) (fun q => ⟨kill (id :: own) [(id, p)] st.g, (id, ⟨τ, q.2⟩) :: del (id :: own) st.h⟩) else .bad
        | v => match coe τ' v with
          | some y => .part τ.den (fun z' => SetP τ z p τ' y z') (fun z' => ⟨kill [id] [(id, p)] st.g, (id, ⟨τ, z'⟩) :: del [id] st.h⟩)
          | none => .bad
      else .bad
    | _, _ => .bad

theorem placeOf_ok (hR : RelAt C st a.tmps w I rt fp) {x : Operand} {id : Nat} {p : List Step} (h : placeOf st.h (opA st.g x) = some (id, p)) {t : Tree} (ht : lk st.h id = some t) {τ' : Ty} (hty : tyAt t.1 p = some τ') :
    ∃ b o' cs, a.eval x = .pointer (some ⟨b, o', none⟩) ∧ Nav w t.1 none (rt id) p τ' (some (b, o')) cs := by
  have hx := hR.opA x
  unfold placeOf at h
  generalize hv : a.eval x = v at hx
  split at h
  · rename_i id' p' ex
    cases h
    rw [ex] at hx
    cases hx with | addr ht' hn =>
    rw [ht] at ht'; cases ht'
    have := hn.ty
    rw [hty] at this; cases this
    exact ⟨_, _, _, rfl, hn⟩
  · rename_i id' p' ex
    split at h
    case h_2 => cases h
    rename_i τ y ht0
    split at h
    case h_2 => cases h
    rename_i t0 hty0
    cases h
    rw [ht] at ht0; cases ht0
    rw [ex] at hx
    cases hx with | ref ht' hn =>
    rw [ht] at ht'; cases ht'
    have := hn.ty
    rw [hty0] at this; cases this
    obtain ⟨b, off, ds, rfl, d1, d2⟩ := navOptr (hR.tree id _ ht).1 hn
    have hn2 := hn.append (Nav.deref1 d1 d2)
    have := hn2.ty
    rw [hty] at this; cases this
    exact ⟨b, off, ds, rfl, hn2⟩
  · cases h

theorem sto_run {T : TypeId} {u τ' : Ty} (hT : lk E.tt T = some u) (hl : sameLay u τ' = true) {x v : Operand} (ho : o.op = .store T x v) {b o' : Nat} (hx : a.eval x = .pointer (some ⟨b, o', none⟩)) {cs : List Value}
    (hv : (a.eval v).cells = cs.toArray) (hc : cs.length = τ'.size) (h1 : ∀ v ∈ cs, v.oneCell' = true) (hf : Fr w b o' (o' + τ'.size)) : (execOp a.eval o).run E.P w = .ok .skip (w.setCells b o' cs) := by
  have hty := (E.ok T u hT).lay hl
  have hst := run_storeCells_cells (P := E.P) b o' cs 0 w (fun j hj => by simpa using (hf (o' + j) (by omega) (by omega)).1) (fun j hj => by simpa using (hf (o' + j) (by omega) (by omega)).2) h1
  simp only [Nat.add_zero] at hst
  have : (storeVar T ⟨b, o', none⟩ (a.eval v)).run E.P w = .ok () (w.setCells b o' cs) := by
    simp only [storeVar, hv, Sem.run_bind, hty.sizeOf, Result.andThen_ok]
    simpa [hc] using hst
  simp [execOp, ho, hx, Instr.storeAt, Instr.sureAddr, this]

theorem stoF_sound {T : TypeId} {x v : Operand} (ho : o.op = .store T x v) (hdst : o.dst = none) (h : (stoF E.tt st T (opA st.g x) (opA st.g v)).K Q) : OK1 E C o st Q := by
  rintro a w ⟨I, rt, fp, hR⟩ next X hnext
  have hv := hR.opA v
  unfold stoF at h
  split at h
  · exact h.elim
  rename_i id p hpl
  split at h
  case h_2 => exact h.elim
  rename_i τ z u ht hT
  split at h
  · exact h.elim
  rename_i τ' hty
  cases hl : sameLay u τ' with
  | false => rw [hl] at h; exact h.elim
  | true =>
  rw [hl] at h
  simp only [cond_true] at h
  obtain ⟨b, o', cs0, hx, hn⟩ := placeOf_ok hR hpl ht hty
  have hTy := (E.ok T u hT).lay hl
  have fin : ∀ (cs' : List Value) (st' : St) (rtn : Nat → List Value) (fpn : Nat → List Nat), (a.eval v).cells = cs'.toArray → cs'.length = τ'.size → (∀ v ∈ cs', v.oneCell' = true) → Fr w b o' (o' + τ'.size) → RelAt C st' a.tmps (w.setCells b o' cs') I rtn fpn → Q st' → o.wp E.P a w next X := by
    intro cs' st' rtn fpn e1 e2 e3 e4 hr hq
    unfold Oper.wp
    rw [sto_run hT hl ho hx e1 e2 e3 e4]
    show next (a.put o.dst undef) _
    rw [hdst]
    exact hnext _ _ _ hq rfl ⟨I, rtn, fpn, hr⟩
  split at h
  · rename_i id2 p2 ev
    split at h
    case h_2 => exact h.elim
    rename_i τ2 y2 ht2
    cases hb : Nat.beq id id2 with
    | true => rw [hb] at h; exact h.elim
    | false =>
      rw [hb] at h
      obtain ⟨⟨y, z'⟩, ⟨hgp, hs⟩, h⟩ := h
      have hne : id ≠ id2 := fun e => by rw [e, Nat.beq_refl] at hb; cases hb
      rw [ev] at hv
      generalize hvv : a.eval v = vv at hv
      cases hv with | ref ht' hn' =>
      rw [ht2] at ht'; cases ht'
      obtain ⟨r1, r2, r3⟩ := hR.tree id2 _ ht2
      obtain ⟨loc2, cs2, f2, rest2, k1, k2, _, k4, _⟩ := focus p2 (τ' := τ') (y := y) r1 (loc := none) (fun _ _ h => by cases h) r2 (fun _ _ h => by cases h) (hR.notM ht2) hgp
      obtain ⟨rfl, rfl, rfl⟩ := hn'.det k1
      have hnd2 : f2.Nodup := (List.nodup_append.1 (k4.nodup_iff.1 r2)).1
      obtain ⟨hfr, rtn, fpn, hR'⟩ := hR.store ht hn hs k2 hnd2 (S2 := [id2]) (by simpa using hne) (fun c hc => .inr ⟨id2, by simp, _, ht2, k4.mem_iff.2 (by simp [hc])⟩)
      exact fin _ _ rtn fpn (by rw [hvv]; exact regV_cells hTy k2.len k2.one) k2.len k2.one hfr hR' h
  · rename_i id2 p2 σ ys own ev
    split at h
    case isFalse => exact h.elim
    rename_i e
    subst e
    obtain ⟨⟨xs, z'⟩, ⟨rfl, rfl, hg, hs⟩, h⟩ := h
    rw [ev] at hv
    generalize hvv : a.eval v = vv at hv
    cases hv with | app ht' hnb hn' hg' h1 hf1 h2 hown hsub hnd =>
    rw [ht] at ht'; cases ht'
    obtain rfl := GetP.uniq hg hg'
    obtain ⟨_, e1, e2⟩ := hn.det hn'
    subst e1; subst e2
    have hnb' : (Ty.osl σ).nb = true := hnb
    obtain ⟨hfr, rtn, fpn, hR'⟩ := hR.store ht hn hs h2 hnd (S2 := own) (fun hm => (hown _ hm).1 rfl) (fun c hc => by
      rcases hsub c hc with q | ⟨i, hi, q⟩
      · exact .inl ⟨_, xs, hnb', h1, q⟩
      · obtain ⟨_, u', hu⟩ := hown i hi
        exact .inr ⟨i, hi, u', hu, q⟩)
    exact fin _ _ rtn fpn (by rw [hvv]; have := regV_cells hTy h2.len h2.one; exact this) h2.len h2.one hfr hR' h
  · split at h
    case h_2 => exact h.elim
    rename_i y hy
    obtain ⟨z', hs, h⟩ := h
    have r1 := coe_rep hTy hv hy
    obtain ⟨hfr, rtn, fpn, hR'⟩ := hR.store ht hn hs r1 (by simp) (S2 := []) (by simp) (by simp)
    exact fin _ _ rtn fpn (by simp) r1.len r1.one hfr hR' h
end
end Go.Fw
