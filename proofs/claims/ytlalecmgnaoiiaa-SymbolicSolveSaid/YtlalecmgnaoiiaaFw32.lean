/-
  The framework, part 32 (after 31, before 33): regions whose order is drawn: two operations change places.
-/
import Derived.Test.YtlalecmgnaoiiaaFw31
namespace Go.Fw

def predsB (ops : Array Oper) (i : Nat) : List Nat := match ops[i]? with
  | some o => (o.after.toList.filter (Region.binds .any)).map (·.on)
  | none => []

def skipEff (d : Nat) : Eff := ⟨some (d, .cv undef), [], [], []⟩

/-- An operation, with the check of what it looks at and touches. -/
noncomputable def eFc (ic : IC) {β : Type} (ft mo : List Nat) (st : St) (o : Oper) (K : Eff → Option β) : Option β :=
  eF ic (opA st.g) st.h o fun e => bif footOk ft mo (opA st.g) o e then K e else none

/-- One operation of a drawn region, as an effect. -/
def Stp (ic : IC) (ops : Array Oper) (ft mo : Nat → List Nat) (i : Nat) (st : St) (e : Eff) : Prop :=
  ∃ o, ops[i]? = some o ∧ ((wantP ops st o true ∧ eF ic (opA st.g) st.h o some = some e ∧ footOk (ft i) (mo i) (opA st.g) o e = true) ∨
    (wantP ops st o false ∧ ∃ d, o.dst = some d ∧ slotOk ic.n ic.pin d = true ∧ e = skipEff d))

/-- The operations of a drawn region, in the order of a list. -/
noncomputable def iD (ic : IC) {β : Type} (ops : Array Oper) (ft mo : Nat → List Nat) : List Nat → St → (St → Option β) → Option β
  | [], st, K => K st
  | i :: l, st, K => match ops[i]? with
    | none => none
    | some o => match o.guard with
      | none => eFc ic (ft i) (mo i) st o fun e => iD ic ops ft mo l (e.app st) K
      | some (j, want) => match (ops[j]?).bind (·.dst), o.dst with
        | some dj, some d => match gt st.g dj with
          | .val .bool x => bif slotOk ic.n ic.pin d then
              (match x == want with
              | true => eFc ic (ft i) (mo i) ⟨(dj, .val .bool want) :: st.g, st.h⟩ o fun e => iD ic ops ft mo l (e.app ⟨(dj, .val .bool want) :: st.g, st.h⟩) K
              | false => iD ic ops ft mo l ⟨(d, .cv undef) :: (dj, .val .bool (!want)) :: st.g, st.h⟩ K) else none
          | .cv (.tuple _) => bif slotOk ic.n ic.pin d then iD ic ops ft mo l ⟨(d, .cv undef) :: st.g, st.h⟩ K else none
          | _ => none
        | _, _ => none

def RunD (ic : IC) (ops : Array Oper) (ft mo : Nat → List Nat) : List Nat → St → St → Prop
  | [], s, t => SEq s t
  | i :: l, s, t => ∃ e, Stp ic ops ft mo i s e ∧ RunD ic ops ft mo l (e.app s) t

section
variable {ic : IC} {ops : Array Oper} {ft mo : Nat → List Nat}

theorem dstOk.ok {x : Option (Nat × AV)} {y : Option Nat} (h : dstOk x y = true) : ∀ d av, x = some (d, av) → y = some d := by
  intro d av e
  subst e
  cases y with
  | none => cases h
  | some d' => rw [Nat.eq_of_beq_eq_true (show Nat.beq d d' = true from h)]

theorem eFc_some {f m : List Nat} {st : St} {o : Oper} {β : Type} {K : Eff → Option β} {r : β} (h : eFc ic f m st o K = some r) :
    ∃ e, eF ic (opA st.g) st.h o some = some e ∧ footOk f m (opA st.g) o e = true ∧ K e = some r := by
  unfold eFc at h
  rw [eF_bind] at h
  obtain ⟨e, h1, h2⟩ := Option.bind_eq_some_iff.1 h
  refine ⟨e, h1, ?_⟩
  cases hc : footOk f m (opA st.g) o e with
  | false => rw [hc] at h2; cases h2
  | true => rw [hc] at h2; exact ⟨rfl, h2⟩

theorem footOk.ok {f m : List Nat} {g : Operand → AV} {o : Oper} {e : Eff} (h : footOk f m g o e = true) :
    (∀ d av, e.d = some (d, av) → o.dst = some d) ∧ (∀ x ∈ o.op.operands, notDead (g x) = true ∧ ∀ id ∈ (g x).ids, id ∈ f) ∧ (∀ id ∈ e.S, id ∈ m) ∧ (∀ q ∈ e.put, q.1 ∈ m) ∧ (∀ d av, e.d = some (d, av) → ∀ id ∈ av.ids, id ∈ f) := by
  unfold footOk at h
  simp only [Bool.and_eq_true] at h
  obtain ⟨⟨⟨⟨h1, h2⟩, h3⟩, h4⟩, h5⟩ := h
  refine ⟨dstOk.ok h1, fun x hx => ?_, subB.ok h3, fun q hq => memN_iff.1 (List.all_eq_true.1 h4 q hq), fun d av hd => ?_⟩
  · have := List.all_eq_true.1 h2 x (by simpa using hx)
    simp only [Bool.and_eq_true] at this
    exact ⟨this.1, subB.ok this.2⟩
  · rw [hd] at h5; exact subB.ok h5

theorem mem_reads {o : Oper} {k : Nat} (h : .tmp k ∈ o.op.operands) : k ∈ o.looksAt ops :=
  List.mem_append_left _ (List.mem_filterMap.2 ⟨.tmp k, by simpa using h, rfl⟩)

theorem mem_reads_guard {o : Oper} {j dj : Nat} {want : Bool} (hg : o.guard = some (j, want)) (hj : (ops[j]?).bind (·.dst) = some dj) : dj ∈ o.looksAt ops :=
  List.mem_append_right _ (by rw [hg]; simp only [hj]; simp)

theorem wantP_congr {f : List Nat} {s s' : St} {o : Oper} {b : Bool} (h : ∀ k ∈ o.looksAt ops, notDead (gt s.g k) = true → (∀ id ∈ (gt s.g k).ids, id ∈ f) → gt s'.g k = gt s.g k) (hw : wantP ops s o b) : wantP ops s' o b := by
  unfold wantP at *
  cases hg : o.guard with
  | none => rw [hg] at hw; exact hw
  | some p =>
    obtain ⟨j, want⟩ := p
    rw [hg] at hw
    simp only at hw ⊢
    cases hj : (ops[j]?).bind (·.dst) with
    | none => rw [hj] at hw; exact hw
    | some dj =>
      rw [hj] at hw
      simp only at hw ⊢
      have hm := h dj (mem_reads_guard hg hj)
      split at hw
      · rename_i x hx
        rw [hm (by rw [hx]; rfl) (by rw [hx]; simp [AV.ids]), hx]; exact hw
      · rename_i l hx
        rw [hm (by rw [hx]; rfl) (by rw [hx]; simp [AV.ids]), hx]; exact hw
      · exact hw.elim

/-- What an operation looks at is the same: it does the same. -/
theorem Stp.congr {i : Nat} {s s' : St} {e : Eff} (h : Stp ic ops ft mo i s e) (hg : ∀ o, ops[i]? = some o → ∀ k ∈ o.looksAt ops, notDead (gt s.g k) = true → (∀ id ∈ (gt s.g k).ids, id ∈ ft i) → gt s'.g k = gt s.g k)
    (hh : ∀ o, ops[i]? = some o → ∀ id, id ∈ ft i ∨ id ∈ mo i ∨ o.dst = some id → lk s.h id = lk s'.h id) : Stp ic ops ft mo i s' e := by
  obtain ⟨o, ho, h⟩ := h
  have hg := hg o ho
  have hh := hh o ho
  refine ⟨o, ho, h.imp (fun ⟨h1, h2, h3⟩ => ⟨wantP_congr hg h1, ?_⟩) (fun ⟨h1, h2⟩ => ⟨wantP_congr hg h1, h2⟩)⟩
  obtain ⟨f1, f2, f3, f4, f5⟩ := footOk.ok h3
  have ha : ∀ x ∈ o.op.operands, opA s.g x = opA s'.g x := by
    intro x hx
    obtain ⟨q1, q2⟩ := f2 x hx
    cases x with
    | tmp k => exact (hg k (mem_reads hx) q1 q2).symm
    | const v => cases v <;> rfl
    | func f => rfl
    | global g => rfl
  constructor
  · exact eF_loc h2 ha (fun x hx id hid => hh id (.inl ((f2 x hx).2 id hid))) (fun d hd => hh d (.inr (.inr hd))) (fun q hq => hh _ (.inr (.inl (f4 q hq))))
  · unfold footOk at *
    have : (o.op.operands.toList.all fun x => notDead (opA s'.g x) && subB (opA s'.g x).ids (ft i)) = (o.op.operands.toList.all fun x => notDead (opA s.g x) && subB (opA s.g x).ids (ft i)) := by
      rw [Bool.eq_iff_iff, List.all_eq_true, List.all_eq_true]
      exact ⟨fun h x hx => by rw [ha x (by simpa using hx)]; exact h x hx, fun h x hx => by rw [← ha x (by simpa using hx)]; exact h x hx⟩
    rw [this]; exact h3

/-- What is known of the effect. -/
theorem Stp.eff {i : Nat} {s : St} {e : Eff} (h : Stp ic ops ft mo i s e) {o : Oper} (ho : ops[i]? = some o) :
    (∀ d av, e.d = some (d, av) → o.dst = some d) ∧ (∀ id ∈ e.S, id ∈ mo i) ∧ (∀ q ∈ e.put, q.1 ∈ mo i) ∧ (∀ d av, e.d = some (d, av) → ∀ id ∈ av.ids, id ∈ ft i) := by
  obtain ⟨o', ho', h⟩ := h
  rw [ho] at ho'; cases ho'
  rcases h with ⟨_, _, h⟩ | ⟨_, d, hd, _, rfl⟩
  · obtain ⟨f1, f2, f3, f4, f5⟩ := footOk.ok h
    exact ⟨f1, f3, f4, f5⟩
  · refine ⟨fun d' av hd' => ?_, by simp [skipEff], by simp [skipEff], fun d' av hd' => ?_⟩
    · cases hd'; exact hd
    · cases hd'; simp [AV.ids]

theorem kill1q_cases (S : List Nat) (keep : List (Nat × List Step)) (a : AV) : kill1 S keep a = .dead ∨ kill1 S keep a = a := by
  unfold kill1
  cases (a.uses S && !(isRoot keep a)) <;> simp
theorem kill1q_notDead {S : List Nat} {keep : List (Nat × List Step)} {a : AV} (h : notDead (kill1 S keep a) = true) : kill1 S keep a = a := by
  rcases kill1q_cases S keep a with e | e
  · rw [e] at h; cases h
  · exact e
theorem kill1q_dis {S : List Nat} {keep : List (Nat × List Step)} {a : AV} (h : ∀ id ∈ a.ids, id ∉ S) : kill1 S keep a = a := by
  refine uses_nil' ?_ keep
  unfold AV.uses
  rw [List.any_eq_false]
  intro id hid hm
  exact h id hid (memN_iff.1 hm)
theorem kill1q_comm (S : List Nat) (keep : List (Nat × List Step)) (S' : List Nat) (keep' : List (Nat × List Step)) (a : AV) : kill1 S keep (kill1 S' keep' a) = kill1 S' keep' (kill1 S keep a) := by
  have hd : ∀ S keep, kill1 S keep .dead = .dead := fun S keep => by simp [kill1, AV.uses, AV.ids]
  rcases kill1q_cases S keep a with h1 | h1 <;> rcases kill1q_cases S' keep' a with h2 | h2 <;> simp only [h1, h2, hd]

theorem app_gt_ne {e : Eff} {s : St} {k : Nat} (h : ∀ d av, e.d = some (d, av) → d ≠ k) : gt (e.app s).g k = kill1 e.S e.keep (gt s.g k) := by
  rw [Eff.app_gt]
  cases hd : e.d with
  | none => rfl
  | some q => obtain ⟨d, av⟩ := q; simp only; rw [if_neg (h d av hd)]

theorem lk_not_mem {α : Type} {l : List (Nat × α)} {id : Nat} (h : ∀ q ∈ l, q.1 ≠ id) : lk l id = none := by
  induction l with
  | nil => rfl
  | cons q l ih =>
    obtain ⟨k, v⟩ := q
    rw [lk_cons, if_neg (h (k, v) (by simp)), ih (fun q hq => h q (by simp [hq]))]

theorem app_lk_ne {e : Eff} {s : St} {id : Nat} (h1 : id ∉ e.S) (h2 : ∀ q ∈ e.put, q.1 ≠ id) : lk (e.app s).h id = lk s.h id := by
  rw [Eff.app_lk, if_neg h1, lk_not_mem h2]; rfl

def disjB (l r : List Nat) : Bool := l.all fun i => !(memN i r)
theorem disjB.ok {l r : List Nat} (h : disjB l r = true) : ∀ i ∈ l, i ∉ r := fun i hi hm => by
  have := List.all_eq_true.1 h i hi
  rw [memN_iff.2 hm] at this; cases this

def dl (o : Oper) : List Nat := match o.dst with
  | some d => [d]
  | none => []
theorem mem_dl {o : Oper} {d : Nat} (h : o.dst = some d) : d ∈ dl o := by unfold dl; rw [h]; simp

def commB (ops : Array Oper) (ft mo : Nat → List Nat) (x i : Nat) : Bool :=
  match ops[x]?, ops[i]? with
  | some ox, some oi => ox.apart ops oi && disjB (mo i) (dl ox ++ (ft x ++ mo x)) && disjB (mo x) (dl oi ++ ft i)
  | _, _ => false

/-- Two neighbours change places. -/
theorem Stp.swap {x i : Nat} {s : St} {ex ei : Eff} (hc : commB ops ft mo x i = true) (h1 : Stp ic ops ft mo x s ex) (h2 : Stp ic ops ft mo i (ex.app s) ei) :
    Stp ic ops ft mo i s ei ∧ Stp ic ops ft mo x (ei.app s) ex ∧ SEq (ei.app (ex.app s)) (ex.app (ei.app s)) := by
  unfold commB at hc
  split at hc
  case h_2 => cases hc
  rename_i ox oi hox hoi
  simp only [Bool.and_eq_true] at hc
  obtain ⟨⟨hap, hd1⟩, hd2⟩ := hc
  have hd1 := disjB.ok hd1
  have hd2 := disjB.ok hd2
  obtain ⟨a1, a2, a3⟩ := Oper.apart_spec hap
  obtain ⟨x1, x2, x3, x4⟩ := h1.eff hox
  obtain ⟨i1, i2, i3, i4⟩ := h2.eff hoi
  have rx : ∀ k ∈ oi.looksAt ops, gt (ex.app s).g k = kill1 ex.S ex.keep (gt s.g k) := fun k hk => app_gt_ne fun d av hd e => a1 d (x1 d av hd) (e ▸ hk)
  have ri : ∀ k ∈ ox.looksAt ops, gt (ei.app s).g k = kill1 ei.S ei.keep (gt s.g k) := fun k hk => app_gt_ne fun d av hd e => a3 d (i1 d av hd) (e ▸ hk)
  have hne : ∀ d a d' a', ei.d = some (d, a) → ex.d = some (d', a') → d ≠ d' := fun d a d' a' hd hd' e => a2 d' (x1 d' a' hd') (e ▸ i1 d a hd)
  -- what each touches is not looked at by the other
  have ti : ∀ id, id ∈ ft x ∨ id ∈ mo x ∨ ox.dst = some id → id ∉ mo i := fun id h hm => hd1 id hm (by
    rcases h with h | h | h
    · simp [h]
    · simp [h]
    · simp [mem_dl h])
  have tx : ∀ id, id ∈ ft i ∨ oi.dst = some id → id ∉ mo x := fun id h hm => hd2 id hm (by
    rcases h with h | h
    · simp [h]
    · simp [mem_dl h])
  have tm : ∀ id, id ∈ mo i → id ∉ mo x := fun id h hm => ti id (.inr (.inl hm)) h
  have lx : ∀ id, id ∉ mo x → ∀ s : St, lk (ex.app s).h id = lk s.h id := fun id h s => app_lk_ne (fun hm => h (x2 id hm)) (fun q hq e => h (e ▸ x3 q hq))
  have li : ∀ id, id ∉ mo i → ∀ s : St, lk (ei.app s).h id = lk s.h id := fun id h s => app_lk_ne (fun hm => h (i2 id hm)) (fun q hq e => h (e ▸ i3 q hq))
  refine ⟨h2.congr (fun o ho k hk hv _ => ?_) (fun o ho id hid => ?_), h1.congr (fun o ho k hk _ hids => ?_) (fun o ho id hid => ?_), ?_, fun id => ?_⟩
  · rw [hoi] at ho; cases ho
    rw [rx k hk] at hv ⊢
    exact (kill1q_notDead hv).symm
  · rw [hoi] at ho; cases ho
    refine lx id ?_ s
    rcases hid with h | h | h
    · exact tx id (.inl h)
    · exact tm id h
    · exact tx id (.inr h)
  · rw [hox] at ho; cases ho
    rw [ri k hk]
    exact kill1q_dis fun id hid hm => ti id (.inl (hids id hid)) (i2 id hm)
  · rw [hox] at ho; cases ho
    exact (li id (ti id hid) s).symm
  · intro k
    rw [Eff.app_gt ei, Eff.app_gt ex (ei.app s), Eff.app_gt ex s, Eff.app_gt ei s]
    cases hdx : ex.d with
    | none =>
      cases hdi : ei.d with
      | none => exact kill1q_comm _ _ _ _ _
      | some q =>
        obtain ⟨d, av⟩ := q
        simp only
        split
        · exact (kill1q_dis fun id hid hm => tx id (.inl (i4 d av hdi id hid)) (x2 id hm)).symm
        · exact kill1q_comm _ _ _ _ _
    | some p =>
      obtain ⟨d', av'⟩ := p
      cases hdi : ei.d with
      | none =>
        simp only
        split
        · exact kill1q_dis fun id hid hm => ti id (.inl (x4 d' av' hdx id hid)) (i2 id hm)
        · exact kill1q_comm _ _ _ _ _
      | some q =>
        obtain ⟨d, av⟩ := q
        have hne : d ≠ d' := hne d av d' av' hdi hdx
        simp only
        by_cases h1 : d = k
        · subst h1
          rw [if_pos rfl, if_neg (Ne.symm hne), if_pos rfl]
          exact (kill1q_dis fun id hid hm => tx id (.inl (i4 d av hdi id hid)) (x2 id hm)).symm
        · rw [if_neg h1, if_neg h1]
          split
          · exact kill1q_dis fun id hid hm => ti id (.inl (x4 d' av' hdx id hid)) (i2 id hm)
          · exact kill1q_comm _ _ _ _ _
  · by_cases hm : id ∈ mo i
    · rw [lx id (tm id hm) (ei.app s), Eff.app_lk ei, Eff.app_lk ei, lx id (tm id hm) s]
    · rw [li id hm (ex.app s), Eff.app_lk ex, Eff.app_lk ex, li id hm s]

theorem Stp.seq {i : Nat} {s s' : St} {e : Eff} (hs : SEq s s') (h : Stp ic ops ft mo i s e) : Stp ic ops ft mo i s' e :=
  h.congr (fun _ _ k _ _ _ => (hs.g k).symm) (fun _ _ id _ => hs.h id)

theorem RunD.seq : ∀ {l : List Nat} {s s' t : St}, SEq s s' → RunD ic ops ft mo l s t → RunD ic ops ft mo l s' t
  | [], _, _, _, hs, h => hs.symm.trans h
  | _ :: _, _, _, _, hs, ⟨e, h1, h2⟩ => ⟨e, h1.seq hs, RunD.seq (hs.app e) h2⟩

/-- One that commutes with all before it comes first. -/
theorem RunD.front {i : Nat} {B : List Nat} : ∀ {A : List Nat} {s t : St}, (∀ x ∈ A, commB ops ft mo x i = true) → RunD ic ops ft mo (A ++ i :: B) s t → ∃ e, Stp ic ops ft mo i s e ∧ RunD ic ops ft mo (A ++ B) (e.app s) t
  | [], s, t, _, ⟨e, h1, h2⟩ => ⟨e, h1, h2⟩
  | x :: A, s, t, hc, ⟨ex, h1, h2⟩ => by
      obtain ⟨ei, h3, h4⟩ := RunD.front (fun y hy => hc y (by simp [hy])) h2
      obtain ⟨g1, g2, g3⟩ := Stp.swap (hc x (by simp)) h1 h3
      exact ⟨ei, g1, ex, g2, h4.seq g3⟩

end
end Go.Fw
