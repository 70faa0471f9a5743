/-
  The framework, part 24: the interpreter, and that it is right.
-/
import Derived.Test.YtlalecmgnaoiiaaFw35
namespace Go.Fw

structure IC where
  tt : List (TypeId × Ty)
  tbl : List (Nat × Fun)
  an : List (Nat × Ty)
  n : Nat
  pin : List Nat
  kg : List (Nat × AV)
  fz : List (Nat × Nat)

def embK (ic : IC) (sh : Shp) (s : sh.den) : St := ⟨ic.kg ++ embG sh.g s, embH sh.h (embR sh.g s)⟩

def slotOk (n : Nat) (pin : List Nat) (d : Nat) : Bool := Nat.blt d n && !(memN d pin)

/-- One operation, as its effect. -/
noncomputable def e1 (ic : IC) {β : Type} (g : Operand → AV) (h : List (Nat × Tree)) (o : Oper) (K : Eff → Option β) : Option β :=
  match o.dst with
  | none => match o.op with
    | .store T x v => stoE ic.tt h T (g x) (g v) K
    | _ => none
  | some d => bif slotOk ic.n ic.pin d then
      match o.op with
      | .pick c x y => match g c with
        | .val .bool b => (match g x, g y with
          | .val τ u, .val τ' v => match castT (τ := τ') τ v with
            | some v => K ⟨some (d, .val τ (bif b then u else v)), [], [], []⟩
            | none => none
          | u, v => match b with
            | true => K ⟨some (d, u), [], [], []⟩
            | false => K ⟨some (d, v), [], [], []⟩)
        | _ => none
      | .call { callee := .value (.func f), args := xs, argTypes := _ } =>
          match lk ic.tbl f with
          | none => none
          | some F => bif Nat.beq F.f f then
              match getA h (takenP (xs.toList.map g) F.ps) F.ps (xs.toList.map g) with
              | none => none
              | some a => (F.sem a).bind fun b => bif callChk d ⟨[], h⟩ (xs.toList.map g) (mkA F.ps a b) (mkR F.rs (outR F.ps b)) then
                  K ⟨some (d, resAV d (mkR F.rs (outR F.ps b))), takenIds (xs.toList.map g) (mkA F.ps a b), kp0 (keptIds (xs.toList.map g) (mkA F.ps a b)),
                    outTrees (xs.toList.map g) (mkA F.ps a b) ++ resTrees d (isSingle (mkR F.rs (outR F.ps b))) 0 (mkR F.rs (outR F.ps b))⟩ else none
            else none
      | .call { callee := .builtin .append, args := xs, argTypes := ts } => match xs.toList, ts.toList with
        | [x, y], [T, T'] => bif Nat.beq T T' then appE ic.tt ic.an h d T (g x) (g y) K else none
        | _, _ => none
      | .assign x => match g x with
        | .val τ y => K ⟨some (d, .val τ y), [], [], []⟩
        | .cv v => match lk ic.an d with
          | none => K ⟨some (d, .cv v), [], [], []⟩
          | some τ => match τ.pure && cvOk τ v with
            | true => (cvC τ v.cells.toList).bind fun y => K ⟨some (d, .val τ y), [], [], []⟩
            | false => (asgE ic.an h d (.cv v)).bind K
        | v => (asgE ic.an h d v).bind K
      | .build T ps => bldE ic.tt h g d T ps.toList K
      | .box T x => boxE ic.tt ic.an h d T (g x) K
      | .buildSlice T n ps => bslE ic.tt ic.an h g d T n ps.toList K
      | _ => match evalN ic.tt ic.an h g d o.op with
        | .tot av => K ⟨some (d, av), [], [], []⟩
        | .opt _ y f => y.bind fun q => K ⟨some (d, f q), [], [], []⟩
        | .new _ y t e => bif Nat.beq e d then y.bind fun q => K ⟨some (d, .ref d []), [], [], [(d, t q)]⟩ else none
        | .no => match evalF ic.tt ic.an h g d o.op with
          | .tot av new => K ⟨some (d, av), [], [], new⟩
          | .part _ φ f => (pick φ).bind fun q => K ⟨some (d, (f q).1), [], [], (f q).2⟩
          | .bad => none
    else none

def canFrz (h : List (Nat × Tree)) (F : List Nat) : Bool := F.all fun id => match lk h id with | some t => frzOk t.1 | none => false

/-- One operation, behind what it takes over is given up. -/
noncomputable def eF (ic : IC) {β : Type} (g : Operand → AV) (h : List (Nat × Tree)) (o : Oper) (K : Eff → Option β) : Option β :=
  match frzIds ic.fz (frzKey o) g (valOps o.op) with
  | [] => e1 ic g h o K
  | F => bif canFrz h F then e1 ic (fun x => frzAV h F (g x)) (del F h) o fun e => bif e.keep.all (fun i => !memN i.1 F) then K ⟨e.d, F ++ e.S, e.keep, e.put⟩ else none else none

noncomputable def i1 (ic : IC) {β : Type} (st : St) (o : Oper) (K : St → Option β) : Option β := eF ic (opA st.g) st.h o fun e => K (e.app st)

/-- The operations of a region, in their order. -/
noncomputable def iL (ic : IC) {β : Type} (ops : Array Oper) : List Nat → St → (St → Option β) → Option β
  | [], st, K => K st
  | i :: l, st, K => match ops[i]? with
    | none => none
    | some o => match o.guard with
      | none => i1 ic st o fun s => iL ic ops l s K
      | some (j, want) => match (ops[j]?).bind (·.dst), o.dst with
        | some dj, some d => match gt st.g dj with
          | .val .bool x => bif slotOk ic.n ic.pin d then
              (match x == want with
              | true => i1 ic ⟨(dj, .val .bool want) :: st.g, st.h⟩ o fun s => iL ic ops l s K
              | false => iL ic ops l ⟨(d, .cv undef) :: (dj, .val .bool (!want)) :: st.g, st.h⟩ K) else none
          | .cv (.tuple _) => bif slotOk ic.n ic.pin d then iL ic ops l ⟨(d, .cv undef) :: st.g, st.h⟩ K else none
          | _ => none
        | _, _ => none

section
variable {E : Env} {C : Ctx} {ic : IC} {β : Type}

def IC.Ok (E : Env) (C : Ctx) (ic : IC) : Prop := ic.tt = E.tt ∧ ic.n = C.n ∧ ic.pin = C.pin ∧ (∀ f F, lk ic.tbl f = some F → OkFun E F) ∧ KG C ic.kg

theorem slotOk.ok (h : ic.Ok E C) {d : Nat} (hd : slotOk ic.n ic.pin d = true) : C.ok d := by
  obtain ⟨_, h2, h3, _, _⟩ := h
  rw [h2, h3] at hd
  simp only [slotOk, Bool.and_eq_true] at hd
  exact ⟨Nat.le_of_ble_eq_true hd.1, fun hm => by have h2 := hd.2; rw [memN_iff.2 hm] at h2; cases h2⟩

theorem Rel.same {tm : Array Value} {w : World} {st st' : St} (hg : ∀ k, gt st'.g k = gt st.g k) (hh : st'.h = st.h) (h : Rel C st tm w) : Rel C st' tm w := by
  obtain ⟨I, rt, fp, hR⟩ := h
  exact ⟨I, rt, fp, { hR with tree := by rw [hh]; exact hR.tree, dis := by rw [hh]; exact hR.dis, tmp := fun k => by rw [hh, hg]; exact hR.tmp k }⟩

theorem OJ.same {ops : Array Oper} {l : List Nat} {st st' : St} {Q : St → Prop} (hg : ∀ k, gt st'.g k = gt st.g k) (hh : st'.h = st.h) (h : OJ E C ops l st' Q) : OJ E C ops l st Q :=
  fun a w hR => h a w (hR.same hg hh)

theorem Eff.app_cons {d : Nat} {av : AV} {S : List Nat} {keep : List (Nat × List Step)} {put : List (Nat × Tree)} {st : St} : (Eff.mk (some (d, av)) S keep put).app st = ⟨(d, av) :: kill S keep st.g, put ++ del S st.h⟩ := by
  show St.mk ((d, av) :: killE S keep st.g) (put ++ delE S st.h) = _
  rw [killE_eq, delE_eq]

/-- A step of the interpreter is right. -/
theorem e1q_ok (hic : ic.Ok E C) {o : Oper} {st : St} {K : Eff → Option β} {r : β} (h : e1 ic (opA st.g) st.h o K = some r) : OK1 E C o st (fun s => ∃ e, K e = some r ∧ s = e.app st) := by
  obtain ⟨htt, hn, hpin, htbl, _⟩ := id hic
  unfold e1 at h
  split at h
  · rename_i hd
    split at h
    · rename_i T x v hop
      rw [htt] at h
      exact stoF_sound hop hd (stoE_ok h (fun e he => ⟨e, he, rfl⟩))
    · cases h
  rename_i d hd
  cases hs : slotOk ic.n ic.pin d with
  | false => rw [hs] at h; cases h
  | true =>
  rw [hs] at h
  have hdn := slotOk.ok hic hs
  simp only [cond_true] at h
  split at h
  · rename_i c x y hop
    split at h
    case h_2 => cases h
    rename_i b hc
    have fin : ∀ av, (b = true → av = opA st.g x) → (b = false → av = opA st.g y) → K ⟨some (d, av), [], [], []⟩ = some r → OK1 E C o st (fun s => ∃ e, K e = some r ∧ s = e.app st) := by
      clear h
      intro av h1 h2 hh
      refine OK1.eval (an := ic.an) hd hdn ?_
      rw [hop]
      simp only [evalF, pickF, hc]
      refine ⟨b, rfl, _, hh, ?_⟩
      cases b
      · rw [h2 rfl]; rfl
      · rw [h1 rfl]; rfl
    split at h
    · rename_i τ u τ' v hu hv
      split at h
      case h_2 => cases h
      rename_i v' hv'
      cases castT_some hv'
      refine fin _ ?_ ?_ h
      · intro e; rw [hu, e]; rfl
      · intro e; rw [hv, e]; rfl
    · cases b
      · exact fin _ (fun e => by cases e) (fun _ => rfl) h
      · exact fin _ (fun _ => rfl) (fun e => by cases e) h
  · rename_i f xs _ hop
    split at h
    · cases h
    rename_i F hF
    cases hb : Nat.beq F.f f with
    | false => rw [hb] at h; cases h
    | true =>
    rw [hb] at h
    obtain rfl := Nat.eq_of_beq_eq_true hb
    simp only [cond_true] at h
    split at h
    · cases h
    rename_i a ha
    obtain ⟨b, hsem, h⟩ := Option.bind_eq_some_iff.1 h
    cases hc : callChk d ⟨[], st.h⟩ (xs.toList.map (opA st.g)) (mkA F.ps a b) (mkR F.rs (outR F.ps b)) with
    | false => rw [hc] at h; cases h
    | true =>
    rw [hc] at h
    obtain ⟨hf1, hf2⟩ := htbl _ _ hF
    refine OK1.call hop hd hdn hf1 (hf2 a b hsem) ?_ hc ⟨_, h, ?_⟩
    · rw [takenP_eq]
      exact getA_ok ha
    · rw [Eff.app_cons]; rfl
  · rename_i xs ts hop
    split at h
    case h_2 => cases h
    rename_i x y T T' e1 e2
    cases hb : Nat.beq T T' with
    | false => rw [hb] at h; cases h
    | true =>
    rw [hb] at h
    obtain rfl := Nat.eq_of_beq_eq_true hb
    have e1' : xs = #[x, y] := by cases xs; simp_all
    have e2' : ts = #[T, T] := by cases ts; simp_all
    subst e1'; subst e2'
    rw [htt] at h
    exact OK1.app hop hd hdn (appE_ok h (fun e he => ⟨e, he, rfl⟩))
  · rename_i x hop
    have ev : isVal (opA st.g x) = true → K ⟨some (d, opA st.g x), [], [], []⟩ = some r → OK1 E C o st (fun s => ∃ e, K e = some r ∧ s = e.app st) := fun hv hh => by
      refine OK1.eval (an := ic.an) hd hdn ?_
      rw [hop]
      simp only [evalF, hv, cond_true]
      exact ⟨_, hh, rfl⟩
    have as : (asgE ic.an st.h d (opA st.g x)).bind K = some r → OK1 E C o st (fun s => ∃ e, K e = some r ∧ s = e.app st) := fun hh => by
      obtain ⟨e, he, hh⟩ := Option.bind_eq_some_iff.1 hh
      exact OK1.asg hop hd hdn (asgE_ok he ⟨e, hh, rfl⟩)
    split at h
    · rename_i τ y ex
      exact ev (by rw [ex]; rfl) (by rw [ex]; exact h)
    · rename_i v ex
      split at h
      · exact ev (by rw [ex]; rfl) (by rw [ex]; exact h)
      · split at h
        · rename_i hcv
          simp only [Bool.and_eq_true] at hcv
          obtain ⟨y, hy, h⟩ := Option.bind_eq_some_iff.1 h
          rintro a w ⟨I, rt, fp, hR⟩ next X hnext
          have hx := hR.opA x
          have hrun : (execOp a.eval o).run E.P w = .ok (.value (a.eval x)) w := by simp [execOp, hop]
          unfold Oper.wp
          rw [hrun]
          show next (a.put o.dst (a.eval x)) w
          rw [hd]
          refine hnext _ _ _ ⟨_, h, rfl⟩ rfl ⟨_, _, _, hR.put hdn ?_⟩
          rw [ex] at hx
          generalize a.eval x = v' at hx
          cases hx
          rw [← cvOk.ok hcv.2]
          exact .val (cvC_rep hy)
        · exact as (by rw [ex]; exact h)
    · exact as h
  · rename_i T ps hop
    rw [htt] at h
    exact bldE_ok hop hd hdn h (fun e he => ⟨e, he, rfl⟩)
  · rename_i T x hop
    rw [htt] at h
    exact boxE_ok hop hd hdn h (fun e he => ⟨e, he, rfl⟩)
  · rename_i T n ps hop
    rw [htt] at h
    exact bslE_ok hop hd hdn h (fun e he => ⟨e, he, rfl⟩)
  · split at h
    · rename_i av hav
      refine OK1.eval (an := ic.an) hd hdn ?_
      rw [← htt]
      exact evalN_ok (by rw [hav]; exact ⟨_, h, rfl⟩)
    · rename_i α y f hav
      refine OK1.eval (an := ic.an) hd hdn ?_
      rw [← htt]
      obtain ⟨q, hq, h⟩ := Option.bind_eq_some_iff.1 h
      exact evalN_ok (by rw [hav]; exact ⟨q, hq, _, h, rfl⟩)
    · rename_i α y t e hav
      cases hb : Nat.beq e d with
      | false => rw [hb] at h; cases h
      | true =>
      rw [hb] at h
      obtain rfl := Nat.eq_of_beq_eq_true hb
      obtain ⟨q, hq, h⟩ := Option.bind_eq_some_iff.1 h
      refine OK1.eval (an := ic.an) hd hdn ?_
      rw [← htt]
      exact evalN_ok (by rw [hav]; exact ⟨q, hq, _, h, rfl⟩)
    · refine OK1.eval (an := ic.an) hd hdn ?_
      rw [htt] at h
      split at h
      · rename_i av new hav; rw [hav]; exact ⟨_, h, rfl⟩
      · rename_i α φ f hav
        rw [hav]
        obtain ⟨q, hq, h⟩ := Option.bind_eq_some_iff.1 h
        exact ⟨q, pick_some hq, _, h, rfl⟩
      · cases h

theorem OK1.mono {o : Oper} {st : St} {P Q : St → Prop} (h : OK1 E C o st P) (hpq : ∀ s, P s → Q s) : OK1 E C o st Q :=
  fun a w hR next X hn => h a w hR next X (fun s a' w' hs => hn s a' w' (hpq s hs))

theorem kill1q_app {F S : List Nat} {keep : List (Nat × List Step)} {a : AV} : kill1 (F ++ S) keep a = .dead ∨ (a.uses F = false ∧ kill1 (F ++ S) keep a = kill1 S keep a) ∨ (isRoot keep a = true ∧ kill1 (F ++ S) keep a = a) := by
  have hu : a.uses (F ++ S) = (a.uses F || a.uses S) := by
    simp only [AV.uses]
    rw [Bool.eq_iff_iff]
    simp only [List.any_eq_true, Bool.or_eq_true]
    constructor
    · rintro ⟨i, hi, hm⟩
      rcases List.mem_append.1 (memN_iff.1 hm) with h | h
      · exact .inl ⟨i, hi, memN_iff.2 h⟩
      · exact .inr ⟨i, hi, memN_iff.2 h⟩
    · rintro (⟨i, hi, hm⟩ | ⟨i, hi, hm⟩)
      · exact ⟨i, hi, memN_iff.2 (List.mem_append_left _ (memN_iff.1 hm))⟩
      · exact ⟨i, hi, memN_iff.2 (List.mem_append_right _ (memN_iff.1 hm))⟩
  unfold kill1
  rw [hu]
  cases a.uses F <;> cases a.uses S <;> cases isRoot keep a <;> simp

theorem canFrz.ok {h : List (Nat × Tree)} {F : List Nat} (hh : canFrz h F = true) : ∀ id ∈ F, ∃ t, lk h id = some t ∧ frzOk t.1 = true := by
  intro id hid
  have := List.all_eq_true.1 hh id hid
  split at this
  · rename_i t ht; exact ⟨t, ht, this⟩
  · cases this

theorem eF_ok (hic : ic.Ok E C) {o : Oper} {st : St} {K : Eff → Option β} {r : β} (h : eF ic (opA st.g) st.h o K = some r) : OK1 E C o st (fun s => ∃ e, K e = some r ∧ s = e.app st) := by
  unfold eF at h
  split at h
  · exact e1q_ok hic h
  generalize frzIds ic.fz (frzKey o) (opA st.g) (valOps o.op) = F at h
  cases hc : canFrz st.h F with
  | false => rw [hc] at h; cases h
  | true =>
  rw [hc] at h
  simp only [cond_true] at h
  rw [← frzS_opA F st] at h
  have h1 := e1q_ok (st := frzS F st) hic h
  intro a w hR next X hn
  obtain ⟨I, rt, fp, hR⟩ := hR
  refine h1 a w (hR.freeze (canFrz.ok hc)) next X (fun st' a' w' hst hd hR' => ?_)
  obtain ⟨e, he, rfl⟩ := hst
  cases hk : e.keep.all (fun i => !memN i.1 F) with
  | false => rw [hk] at he; cases he
  | true =>
  rw [hk] at he
  have hk : ∀ i ∈ e.keep, i.1 ∉ F := fun i hi hm => by
    have := List.all_eq_true.1 hk i hi
    rw [memN_iff.2 hm] at this; cases this
  refine hn _ a' w' ⟨_, he, rfl⟩ hd (hR'.less ?_ ?_)
  · intro k
    have key : ∀ a : AV, kill1 (F ++ e.S) e.keep a = .dead ∨ kill1 (F ++ e.S) e.keep a = kill1 e.S e.keep (frzAV st.h F a) := by
      intro a
      rcases kill1q_app (F := F) (S := e.S) (keep := e.keep) (a := a) with h | ⟨h1, h2⟩ | ⟨h1, h2⟩
      · exact .inl h
      · right
        rw [h2]
        rcases frzAV_cases st.h F a with ⟨id, t, rfl, q2, _⟩ | ⟨_, q⟩ | ⟨q, _⟩
        · simp [AV.uses, AV.ids, memN_iff.2 q2] at h1
        · rw [h1] at q; cases q
        · rw [q]
      · -- what is kept is not given up
        have hnu : ∀ (id : Nat), (∃ x ∈ e.keep, x.1 = id) → memN id F = false := fun id ⟨x, hx, e⟩ => by
          cases hm : memN id F
          · rfl
          · exact absurd (e ▸ memN_iff.1 hm) (hk x hx)
        have fin : ∀ (id : Nat), a.ids = [id] → (∃ x ∈ e.keep, x.1 = id) → kill1 (F ++ e.S) e.keep a = .dead ∨ kill1 (F ++ e.S) e.keep a = kill1 e.S e.keep (frzAV st.h F a) := by
          intro id hids hx
          have hu : a.uses F = false := by simp [AV.uses, hids, hnu id hx]
          right
          rcases frzAV_cases st.h F a with ⟨i, t, rfl, q2, _⟩ | ⟨_, q⟩ | ⟨q, _⟩
          · simp [AV.uses, AV.ids, memN_iff.2 q2] at hu
          · rw [hu] at q; cases q
          · rw [q, h2]
            unfold kill1
            rw [h1]; simp
        have get : ∀ (id : Nat) (P : Nat × List Step → Bool), (e.keep.any fun x => Nat.beq x.1 id && P x) = true → ∃ x ∈ e.keep, x.1 = id := by
          intro id P hh
          obtain ⟨x, hx, h2⟩ := List.any_eq_true.1 hh
          simp only [Bool.and_eq_true] at h2
          exact ⟨x, hx, Nat.eq_of_beq_eq_true h2.1⟩
        cases a with
        | ref id p =>
          cases p with
          | nil =>
            obtain ⟨x, hx, h3⟩ := List.any_eq_true.1 (show (e.keep.any fun x => Nat.beq x.1 id) = true from h1)
            exact fin id rfl ⟨x, hx, Nat.eq_of_beq_eq_true h3⟩
          | cons s p => exact fin id rfl (get id _ h1)
        | addr id p => exact fin id rfl (get id _ h1)
        | view id p lo hi => exact fin id rfl (get id _ h1)
        | _ => cases h1
    show gt (Eff.app ⟨e.d, F ++ e.S, e.keep, e.put⟩ st).g k = .dead ∨ gt (Eff.app ⟨e.d, F ++ e.S, e.keep, e.put⟩ st).g k = gt (e.app (frzS F st)).g k
    obtain ⟨d, S, keep, put⟩ := e
    cases d with
    | none =>
      show gt (killE (F ++ S) keep st.g) k = _ ∨ gt (killE (F ++ S) keep st.g) k = gt (killE S keep (frzS F st).g) k
      rw [killE_eq, killE_eq, gt_kill, gt_kill, frzS_gt]
      exact key _
    | some q =>
      obtain ⟨d, av⟩ := q
      show gt ((d, av) :: killE (F ++ S) keep st.g) k = _ ∨ gt ((d, av) :: killE (F ++ S) keep st.g) k = gt ((d, av) :: killE S keep (frzS F st).g) k
      rw [gt_cons, gt_cons]
      split
      · exact .inr rfl
      · rw [killE_eq, killE_eq, gt_kill, gt_kill, frzS_gt]
        exact key _
  · intro id
    show lk (e.put ++ delE (F ++ e.S) st.h) id = lk (e.put ++ delE e.S (del F st.h)) id
    rw [delE_eq, delE_eq, lk_append, lk_append, lk_del, lk_del, lk_del]
    by_cases h1 : id ∈ F <;> by_cases h2 : id ∈ e.S <;> simp [h1, h2]

theorem i1q_sound (hic : ic.Ok E C) {ops : Array Oper} {i : Nat} {l : List Nat} {o : Oper} {st : St} {K : St → Option β} {r : β} {Q : St → Prop} (ho : ops[i]? = some o) (hw : wantP ops st o true)
    (h : i1 ic st o K = some r) (hK : ∀ s, K s = some r → OJ E C ops l s Q) : OJ E C ops (i :: l) st Q :=
  OJ.op ho hw ((eF_ok hic h).mono (fun s ⟨e, he, hs⟩ => by subst hs; exact hK _ he))

theorem iL_sound (hic : ic.Ok E C) {ops : Array Oper} {K : St → Option β} {r : β} {Q : St → Prop} (hK : ∀ s, K s = some r → Q s) : ∀ {l : List Nat} {st : St}, iL ic ops l st K = some r → OJ E C ops l st Q
  | [], st, h => OJ.nil (hK _ h)
  | i :: l, st, h => by
      simp only [iL] at h
      split at h
      · cases h
      rename_i o ho
      split at h
      · rename_i hg
        exact i1q_sound hic ho (by unfold wantP; rw [hg]) h (fun s hs => iL_sound hic hK hs)
      · rename_i j want hg
        split at h
        case h_2 => cases h
        rename_i dj d hdj hd
        split at h
        case h_3 => cases h
        case h_2 =>
          rename_i q hx
          cases hs : slotOk ic.n ic.pin d with
          | false => rw [hs] at h; cases h
          | true =>
          rw [hs] at h
          have hdn := slotOk.ok hic hs
          refine OJ.skip ho hd hdn ?_ (iL_sound hic hK h)
          unfold wantP
          rw [hg]
          simp only [hdj, hx]
        rename_i x hx
        cases hs : slotOk ic.n ic.pin d with
        | false => rw [hs] at h; cases h
        | true =>
        rw [hs] at h
        have hdn := slotOk.ok hic hs
        simp only [cond_true] at h
        split at h
        · rename_i hb
          obtain rfl : x = want := by simpa using hb
          have same : ∀ k, gt (⟨(dj, .val .bool x) :: st.g, st.h⟩ : St).g k = gt st.g k := fun k => by
            show gt ((dj, _) :: st.g) k = _
            rw [gt_cons]
            split
            · rename_i e; rw [← e, hx]
            · rfl
          refine OJ.same same rfl (i1q_sound hic ho ?_ h (fun s hs => iL_sound hic hK hs))
          unfold wantP
          rw [hg]
          simp only [hdj, same dj, hx]
          simp
        · rename_i hb
          have hxw : x = !want := by cases x <;> cases want <;> first | rfl | cases hb
          have same : ∀ k, gt (⟨(dj, .val .bool (!want)) :: st.g, st.h⟩ : St).g k = gt st.g k := fun k => by
            show gt ((dj, _) :: st.g) k = _
            rw [gt_cons]
            split
            · rename_i e; rw [← e, hx, hxw]
            · rfl
          refine OJ.same same rfl (OJ.skip ho hd hdn ?_ (iL_sound hic hK h))
          unfold wantP
          rw [hg]
          simp only [hdj, same dj, hx]
          exact hb

end
end Go.Fw
