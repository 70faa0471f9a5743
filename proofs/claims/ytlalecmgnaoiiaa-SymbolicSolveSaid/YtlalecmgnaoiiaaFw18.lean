/-
  The framework, part 18: lists of operations and code.
-/
import Derived.Test.YtlalecmgnaoiiaaFw17
namespace Go.Fw

/-- A list of a region's operations, from an abstract state to those of Q. -/
def OJ (E : Env) (C : Ctx) (ops : Array Oper) (l : List Nat) (st : St) (Q : St → Prop) : Prop :=
  ∀ (a : Act) (w : World), Rel C st a.tmps w → ∀ QQ : Exit → Act → World → Prop, (∀ st' a' w', Q st' → a'.defers = a.defers → Rel C st' a'.tmps w' → QQ .normal a' w') → wpOps E.P ops QQ l a w

/-- Whether an operation's guard lets it be carried out. -/
def wantP (ops : Array Oper) (st : St) (o : Oper) (b : Bool) : Prop :=
  match o.guard with
  | none => b = true
  | some (j, want) => match (ops[j]?).bind (·.dst) with
    | some dj => match gt st.g dj with
      | .val .bool x => (x == want) = b
      | .cv (.tuple _) => b = false
      | _ => False
    | none => False

section
variable {E : Env} {C : Ctx} {st : St} {ops : Array Oper} {Q : St → Prop}

theorem wantP.ok {a : Act} {w : World} {I : Nat → Prop} {rt : Nat → List Value} {fp : Nat → List Nat} (hR : RelAt C st a.tmps w I rt fp) {o : Oper} {b : Bool} (h : wantP ops st o b) : Region.wanted o (yielded ops a.tmps) = b := by
  unfold wantP at h
  unfold Region.wanted
  split at h
  · rename_i hg; rw [hg]; exact h.symm
  · rename_i j want hg
    rw [hg]
    split at h
    · rename_i dj hdj
      split at h
      · rename_i x hx
        have := hR.tmp dj
        rw [hx] at this
        generalize hv : a.tmps.getD dj undef = v at this
        cases this with | val r =>
        obtain ⟨_, rfl⟩ := r
        have hget : a.tmps[dj]? = some (.bool x) := by
          rw [Array.getD_eq_getD_getElem?] at hv
          cases hh : a.tmps[dj]? with
          | none => rw [hh] at hv; cases hv
          | some u => rw [hh] at hv; simp only [Option.getD_some] at hv; rw [hv]; rfl
        simp only [yielded, hdj, Option.bind_some, hget]
        rw [← h]
        cases x <;> cases want <;> rfl
      · rename_i l hx
        have := hR.tmp dj
        rw [hx] at this
        generalize hv : a.tmps.getD dj undef = v at this
        cases this
        subst h
        simp only [yielded, hdj, Option.bind_some]
        rw [Array.getD_eq_getD_getElem?] at hv
        cases hh : a.tmps[dj]? with
        | none => rfl
        | some u => rw [hh] at hv; simp only [Option.getD_some] at hv; rw [hv]; rfl
      · exact h.elim
    · exact h.elim

theorem OJ.nil (h : Q st) : OJ E C ops [] st Q := fun a w hR _ hq => hq st a w h rfl hR

theorem OJ.op {i : Nat} {l : List Nat} {o : Oper} (ho : ops[i]? = some o) (hw : wantP ops st o true) (h : OK1 E C o st (fun st' => OJ E C ops l st' Q)) : OJ E C ops (i :: l) st Q := by
  intro a w hR QQ hq
  obtain ⟨I, rt, fp, hR'⟩ := id hR
  simp only [wpOps, ho]
  rw [hw.ok hR', if_pos rfl]
  exact .inl (h a w hR _ _ (fun st' a' w' hj hd hr => hj a' w' hr QQ (fun st2 a2 w2 h2 hd2 hr2 => hq st2 a2 w2 h2 (hd2.trans hd) hr2)))

theorem OJ.skip {i d : Nat} {l : List Nat} {o : Oper} (ho : ops[i]? = some o) (hd : o.dst = some d) (hdn : C.ok d) (hw : wantP ops st o false) (h : OJ E C ops l ⟨(d, .cv undef) :: st.g, st.h⟩ Q) : OJ E C ops (i :: l) st Q := by
  intro a w hR QQ hq
  obtain ⟨I, rt, fp, hR'⟩ := id hR
  simp only [wpOps, ho]
  rw [hw.ok hR', if_neg (by simp), hd]
  exact h _ w ⟨I, rt, fp, hR'.put hdn (.cv undef)⟩ QQ (fun st2 a2 w2 h2 hd2 hr2 => hq st2 a2 w2 h2 hd2 hr2)

/-- Less is known. -/
theorem Rel.cov {tm : Array Value} {w : World} {st st' : St} (h : Rel C st tm w) (hg : covG st'.g st) (hh : covH st'.h st) (hi : idsIn st'.g st'.h = true) : Rel C st' tm w := by
  obtain ⟨I, rt, fp, hR⟩ := h
  exact ⟨I, rt, fp, hR.cov hg hh (idsIn.get hi)⟩

theorem OJ.weak {l : List Nat} {st' : St} (hg : covG st'.g st) (hh : covH st'.h st) (hi : idsIn st'.g st'.h = true) (h : OJ E C ops l st' Q) : OJ E C ops l st Q :=
  fun a w hR => h a w (hR.cov hg hh hi)

/-- Code, from an abstract state: what holds of each way out. -/
def J (E : Env) (C : Ctx) (c : Code) (st : St) (Q : Exit → St → Prop) : Prop :=
  ∀ (a : Act) (w : World), Rel C st a.tmps w → a.defers = [] → c.wp E.P (fun e a' w' => ∃ st', Q e st' ∧ Rel C st' a'.tmps w' ∧ a'.defers = []) a w

variable {R : Exit → St → Prop}

theorem J.weak {c : Code} {st' : St} (hg : covG st'.g st) (hh : covH st'.h st) (hi : idsIn st'.g st'.h = true) (h : J E C c st' R) : J E C c st R := fun a w hR hd => h a w (hR.cov hg hh hi) hd

theorem J.mono {c : Code} {R' : Exit → St → Prop} (h : J E C c st R) (hr : ∀ e s, R e s → R' e s) : J E C c st R' :=
  fun a w hR hd => wp_mono (h a w hR hd) (fun _ _ _ ⟨st', h1, h2⟩ => ⟨st', hr _ _ h1, h2⟩)

theorem J.region {id : Nat} (h : OJ E C ops (List.range ops.size) st (fun st' => R .normal st')) : J E C (.region id ops false) st R :=
  fun a w hR hd => wp_region (h a w hR _ (fun st' _a' _w' hq hd' hr => ⟨st', hq, hr, hd'.trans hd⟩))

theorem J.skip (h : R .normal st) : J E C .skip st R := fun _ _ hR hd => wp_skip ⟨st, h, hR, hd⟩
theorem J.exit {id : Nat} (h : R (.exit id) st) : J E C (.exit id) st R := fun _ _ hR hd => wp_exit ⟨st, h, hR, hd⟩
theorem J.ret (h : R .ret st) : J E C .ret st R := fun _ _ hR hd => wp_ret ⟨st, h, hR, hd⟩

def seqK (E : Env) (C : Ctx) (y : Code) (R : Exit → St → Prop) : Exit → St → Prop
  | .normal, s => J E C y s R
  | e, s => R e s

theorem J.seq {x y : Code} (h : J E C x st (seqK E C y R)) : J E C (.seq x y) st R := fun a w hR hd => by
  refine wp_seq (wp_mono (h a w hR hd) ?_)
  rintro e a' w' ⟨st', h1, h2, h3⟩
  cases e with
  | normal => exact h1 a' w' h2 h3
  | _ => exact ⟨st', h1, h2, h3⟩

theorem J.cond {c : Operand} {x y : Code} {b : Bool} (hc : opA st.g c = .val .bool b) (ht : b = true → J E C x st R) (hf : b = false → J E C y st R) : J E C (.cond c x y) st R := by
  rintro a w ⟨I, rt, fp, hR⟩ hd
  have := hR.opA c
  rw [hc] at this
  generalize hv : a.eval c = v at this
  cases this with | val r =>
  obtain ⟨_, rfl⟩ := r
  exact wp_cond_split hv (fun h => ht h a w ⟨I, rt, fp, hR⟩ hd) (fun h => hf h a w ⟨I, rt, fp, hR⟩ hd)

def blockK (id : Nat) (R : Exit → St → Prop) : Exit → St → Prop
  | .exit j, s => match Nat.beq j id with
    | true => R .normal s
    | false => R (.exit j) s
  | e, s => R e s

theorem J.block {id : Nat} {c : Code} (h : J E C c st (blockK id R)) : J E C (.block id c) st R := fun a w hR hd => by
  refine wp_block (wp_mono (h a w hR hd) ?_)
  rintro e a' w' ⟨st', h1, h2, h3⟩
  cases e with
  | exit j =>
    simp only [Exit.inBlock]
    simp only [blockK] at h1
    by_cases hj : j = id
    · subst hj
      rw [Nat.beq_refl] at h1
      rw [if_pos rfl]; exact ⟨st', h1, h2, h3⟩
    · have : Nat.beq j id = false := by
        cases hb : Nat.beq j id
        · rfl
        · exact absurd (Nat.eq_of_beq_eq_true hb) hj
      rw [this] at h1
      rw [if_neg hj]; exact ⟨st', h1, h2, h3⟩
  | _ => exact ⟨st', h1, h2, h3⟩

/-- A loop of plain mathematics: the body goes on or ends. -/
def loopN {σ ρ : Type} (f : σ → Option (σ ⊕ ρ)) : Nat → σ → Option ρ
  | 0, _ => none
  | n + 1, s => match f s with
    | none => none
    | some (.inl s') => loopN f n s'
    | some (.inr r) => some r

open Classical in
noncomputable def loop {σ ρ : Type} (f : σ → Option (σ ⊕ ρ)) (s : σ) : Option ρ :=
  if h : ∃ r, ∃ n, loopN f n s = some r then some h.choose else none

theorem loopN_mono {σ ρ : Type} {f : σ → Option (σ ⊕ ρ)} : ∀ {n m : Nat} {s : σ} {r : ρ}, n ≤ m → loopN f n s = some r → loopN f m s = some r
  | 0, _, _, _, _, h => by cases h
  | n + 1, 0, _, _, h, _ => by omega
  | n + 1, m + 1, s, r, hl, h => by
      simp only [loopN] at h ⊢
      split at h
      · cases h
      · exact loopN_mono (by omega) h
      · exact h

theorem loop_iff {σ ρ : Type} {f : σ → Option (σ ⊕ ρ)} {s : σ} {r : ρ} : loop f s = some r ↔ ∃ n, loopN f n s = some r := by
  unfold loop
  constructor
  · intro h
    split at h
    · rename_i hh
      obtain ⟨n, hn⟩ := hh.choose_spec
      exact ⟨n, by rw [hn]; exact h⟩
    · cases h
  · rintro ⟨n, hn⟩
    have hh : ∃ r, ∃ n, loopN f n s = some r := ⟨r, n, hn⟩
    rw [dif_pos hh]
    obtain ⟨m, hm⟩ := hh.choose_spec
    have h1 := loopN_mono (Nat.le_max_left n m) hn
    have h2 := loopN_mono (Nat.le_max_right n m) hm
    rw [h1] at h2
    exact h2.symm

theorem loop_unfold {σ ρ : Type} (f : σ → Option (σ ⊕ ρ)) (s : σ) : loop f s = match f s with
    | none => none
    | some (.inl s') => loop f s'
    | some (.inr r) => some r := by
  apply Option.ext
  intro r
  rw [loop_iff]
  cases hf : f s with
  | none =>
    simp only [reduceCtorEq, iff_false]
    rintro ⟨n, hn⟩
    cases n with
    | zero => cases hn
    | succ n => simp only [loopN, hf] at hn; cases hn
  | some o =>
    cases o with
    | inl s' =>
      simp only
      rw [loop_iff]
      constructor
      · rintro ⟨n, hn⟩
        cases n with
        | zero => cases hn
        | succ n => simp only [loopN, hf] at hn; exact ⟨n, hn⟩
      · rintro ⟨n, hn⟩
        exact ⟨n + 1, by simp only [loopN, hf]; exact hn⟩
    | inr r' =>
      simp only
      constructor
      · rintro ⟨n, hn⟩
        cases n with
        | zero => cases hn
        | succ n => simp only [loopN, hf] at hn; exact hn
      · intro h; exact ⟨1, by simp only [loopN, hf]; exact h⟩

/-- A loop: its state at the head is a tuple; each round is as the pure body says. -/
theorem J.loop {σ ρ β : Type} {c : Code} (emb : σ → St) {f : σ → Option (σ ⊕ ρ)} {s0 : σ} {k : ρ → Option β} {res : β} (h : (loop f s0).bind k = some res)
    (hg : covG (emb s0).g st) (hh : covH (emb s0).h st) (hi : idsIn (emb s0).g (emb s0).h = true)
    (hbody : ∀ s o, f s = some o → (match o with | .inl _ => True | .inr r => k r = some res) → J E C c (emb s) (fun e st' => match o with
      | .inl s' => e = .normal ∧ covG (emb s').g st' ∧ covH (emb s').h st' ∧ idsIn (emb s').g (emb s').h = true
      | .inr _ => (e = .normal → False) ∧ R e st')) : J E C (.loop c) st R := by
  obtain ⟨r, hr, hk⟩ := Option.bind_eq_some_iff.1 h
  obtain ⟨n, hn⟩ := loop_iff.1 hr
  have key : ∀ (n : Nat) (s : σ) (a : Act) (w : World), loopN f n s = some r → Rel C (emb s) a.tmps w → a.defers = [] → ∀ (b : Frame) (k : List Item) (cs : List Frame),
      ∃ e a' w', (∃ st', R e st' ∧ Rel C st' a'.tmps w' ∧ a'.defers = []) ∧ Arrives E.P (lone (b.at a (.code c :: .inLoop c :: k)) cs w) b k cs e a' w' := by
    intro n
    induction n with
    | zero => intro s a w hn; cases hn
    | succ n ih =>
      intro s a w hn hR hd b k' cs
      simp only [loopN] at hn
      cases hf : f s with
      | none => rw [hf] at hn; cases hn
      | some o =>
        rw [hf] at hn
        have hb := hbody s o hf (by
          cases o with
          | inl s' => trivial
          | inr r' => simp only at hn; cases hn; exact hk)
        obtain ⟨e, a₁, w₁, ⟨st₁, hq, hr1, hd1⟩, harr⟩ := hb a w hR hd b (.inLoop c :: k') cs
        cases o with
        | inl s' =>
          simp only at hn hq
          obtain ⟨rfl, q1, q2, q3⟩ := hq
          obtain ⟨e₂, a₂, w₂, hq₂, harr₂⟩ := ih s' a₁ w₁ hn (hr1.cov q1 q2 q3) hd1 b k' cs
          exact ⟨e₂, a₂, w₂, hq₂, .of_steps (Steps.trans harr (.one step_inLoop)) harr₂⟩
        | inr r' =>
          obtain ⟨hne, hq⟩ := hq
          cases e with
          | normal => exact (hne rfl).elim
          | exit id => exact ⟨_, a₁, w₁, ⟨st₁, hq, hr1, hd1⟩, .pass (x := .inLoop c) rfl (fun _ _ => .inl (by simp)) harr⟩
          | goto l => exact ⟨_, a₁, w₁, ⟨st₁, hq, hr1, hd1⟩, .pass (x := .inLoop c) rfl (fun _ _ => .inl (by simp)) harr⟩
          | ret => exact ⟨_, a₁, w₁, ⟨st₁, hq, hr1, hd1⟩, .pass (x := .inLoop c) rfl (fun _ _ => .inl (by simp)) harr⟩
          | panic ch => exact ⟨_, a₁, w₁, ⟨st₁, hq, hr1, hd1⟩, .pass (x := .inLoop c) rfl (fun _ _ => .inl (by simp)) harr⟩
          | outgrown => exact ⟨_, a₁, w₁, ⟨st₁, hq, hr1, hd1⟩, .pass (x := .inLoop c) rfl (fun _ _ => .inl (by simp)) harr⟩
  refine J.weak hg hh hi (fun a w hR hd b k' cs => ?_)
  obtain ⟨e, a', w', hq, harr⟩ := key n s0 a w hn hR hd b k' cs
  exact ⟨e, a', w', hq, .of_steps (.one step_loop) harr⟩
end
end Go.Fw
