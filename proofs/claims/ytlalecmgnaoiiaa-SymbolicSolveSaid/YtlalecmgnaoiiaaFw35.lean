/-
  The framework, part 35 (after 34, before 24): what is owned is given up: it stays as it is for good.
-/
import Derived.Test.YtlalecmgnaoiiaaFw34
namespace Go.Fw

def frz : Ty → Ty
  | .osl t => .slc .imm (frz t)
  | .st t => .st (frz t)
  | .pr a b => .pr (frz a) (frz b)
  | τ => τ
def frzOk : Ty → Bool
  | .osl t | .st t => frzOk t
  | .pr a b => frzOk a && frzOk b
  | .optr _ | .blk => false
  | _ => true

theorem frz_den : ∀ τ : Ty, (frz τ).den = τ.den
  | .osl t => congrArg List (frz_den t)
  | .st t => frz_den t
  | .pr a b => by show ((frz a).den × (frz b).den) = (a.den × b.den); rw [frz_den a, frz_den b]
  | .int _ | .bool | .str | .slc _ _ | .ptr _ _ | .optr _ | .nil | .blk => rfl
def frzD (τ : Ty) (x : τ.den) : (frz τ).den := cast (frz_den τ).symm x

theorem cast_list {A B : Type} (h : A = B) (h' : List A = List B) (xs : List A) : cast h' xs = xs.map (cast h) := by
  subst h
  show xs = xs.map (fun x => x)
  simp
theorem cast_prod {A B C D : Type} (h : A = B) (k : C = D) (h' : (A × C) = (B × D)) (x : A × C) : cast h' x = (cast h x.1, cast k x.2) := by
  subst h; subst k; rfl

theorem frzD_osl (t : Ty) (xs : List t.den) : (frzD (.osl t) xs : List (frz t).den) = xs.map (frzD t) := cast_list (frz_den t).symm _ xs
theorem frzD_pr (a b : Ty) (x : a.den × b.den) : (frzD (.pr a b) x : (frz a).den × (frz b).den) = (frzD a x.1, frzD b x.2) := cast_prod (frz_den a).symm (frz_den b).symm _ x

theorem frz_size : ∀ τ : Ty, (frz τ).size = τ.size
  | .osl t => rfl
  | .st t => frz_size t
  | .pr a b => by simp only [frz, Ty.size, frz_size a, frz_size b]
  | .int _ | .bool | .str | .slc _ _ | .ptr _ _ | .optr _ | .nil | .blk => rfl

theorem rep_frz {M M' : Md → Nat → Prop} {w : World} (hM : ∀ m b, M m b → M' m b) : ∀ {τ : Ty} {cs : List Value} {x : τ.den} {f : List Nat}, frzOk τ = true → Rep M w τ cs x f → (∀ b ∈ f, M' .imm b) → Rep M' w (frz τ) cs (frzD τ x) []
  | .osl t, cs, xs, f, ho, h, hf => by
      obtain ⟨a, cap, hcs, h⟩ := h
      have hl : (frzD (.osl t) xs : List (frz t).den).length = List.length (α := t.den) xs := by rw [frzD_osl]; simp
      rcases h with ⟨rfl, h0, rfl, rfl⟩ | ⟨b, o, fps, rfl, rfl, h1, h2, h3, h4⟩
      · refine ⟨rfl, none, 0, by rw [hcs, hl], by rw [hl, h0]; simp, fun _ => rfl, .inl ?_⟩
        rw [frzD_osl, h0]; rfl
      · refine ⟨rfl, _, cap, by rw [hcs, hl], by rw [hl]; exact h2, (fun h => by cases h), ?_⟩
        refine .inr ⟨b, o, rfl, hf b (by simp), fun i x hx => ?_⟩
        rw [frzD_osl] at hx
        have hx : (List.map (frzD t) xs)[i]? = some x := hx
        rw [List.getElem?_map] at hx
        obtain ⟨y, hy, rfl⟩ := Option.map_eq_some_iff.1 hx
        have hi : i < List.length (α := t.den) xs := (List.getElem?_eq_some_iff.1 hy).1
        have hg : fps[i]? = some (fps[i]'(by omega)) := List.getElem?_eq_getElem _
        obtain ⟨ds, d1, d2, d3⟩ := h4 i y _ hy hg
        rw [frz_size]
        exact ⟨ds, d1, d2, rep_frz hM ho d3 (fun c hc => hf c (List.mem_cons_of_mem _ (List.mem_flatten.2 ⟨_, List.getElem_mem _, hc⟩)))⟩
  | .st t, cs, x, f, ho, h, hf => rep_frz (τ := t) hM ho h hf
  | .pr a b, cs, x, f, ho, h, hf => by
      simp only [frzOk, Bool.and_eq_true] at ho
      obtain ⟨f1, f2, rfl, h1, h2⟩ := h
      have e := frzD_pr a b x
      refine ⟨[], [], rfl, ?_, ?_⟩
      · rw [frz_size]
        have := rep_frz hM ho.1 h1 (fun c hc => hf c (by simp [hc]))
        rw [show (frzD (.pr a b) x : (frz a).den × (frz b).den).1 = frzD a x.1 by rw [e]]
        exact this
      · rw [frz_size]
        have := rep_frz hM ho.2 h2 (fun c hc => hf c (by simp [hc]))
        rw [show (frzD (.pr a b) x : (frz a).den × (frz b).den).2 = frzD b x.2 by rw [e]]
        exact this
  | .int k, cs, x, f, _, h, _ => by obtain rfl := Rep.pure (τ := .int k) rfl h; exact h.mono (fun m b hb => ⟨hM m b hb, Sm.refl _ _⟩) (by simp)
  | .bool, cs, x, f, _, h, _ => by obtain rfl := Rep.pure (τ := .bool) rfl h; exact h.mono (fun m b hb => ⟨hM m b hb, Sm.refl _ _⟩) (by simp)
  | .str, cs, x, f, _, h, _ => by obtain rfl := Rep.pure (τ := .str) rfl h; exact h.mono (fun m b hb => ⟨hM m b hb, Sm.refl _ _⟩) (by simp)
  | .slc m t, cs, x, f, _, h, _ => by obtain rfl := Rep.pure (τ := .slc m t) rfl h; exact h.mono (fun m b hb => ⟨hM m b hb, Sm.refl _ _⟩) (by simp)
  | .ptr m t, cs, x, f, _, h, _ => by obtain rfl := Rep.pure (τ := .ptr m t) rfl h; exact h.mono (fun m b hb => ⟨hM m b hb, Sm.refl _ _⟩) (by simp)
  | .nil, cs, x, f, _, h, _ => by obtain rfl := Rep.pure (τ := .nil) rfl h; exact h.mono (fun m b hb => ⟨hM m b hb, Sm.refl _ _⟩) (by simp)
  | .optr _, _, _, _, ho, _, _ => by cases ho
  | .blk, _, _, _, ho, _, _ => by cases ho

def frzAV (h : List (Nat × Tree)) (F : List Nat) (a : AV) : AV :=
  match a with
  | .ref id [] => bif memN id F then match lk h id with
    | some t => .val (frz t.1) (frzD t.1 t.2)
    | none => .dead else .ref id []
  | a => bif a.uses F then .dead else a

theorem frzAV_cases (h : List (Nat × Tree)) (F : List Nat) (a : AV) : (∃ id t, a = .ref id [] ∧ id ∈ F ∧ lk h id = some t ∧ frzAV h F a = .val (frz t.1) (frzD t.1 t.2)) ∨ (frzAV h F a = .dead ∧ a.uses F = true) ∨ (frzAV h F a = a ∧ a.uses F = false) := by
  have gen : ∀ a : AV, frzAV h F a = (bif a.uses F then .dead else a) → (∃ id t, a = .ref id [] ∧ id ∈ F ∧ lk h id = some t ∧ frzAV h F a = .val (frz t.1) (frzD t.1 t.2)) ∨ (frzAV h F a = .dead ∧ a.uses F = true) ∨ (frzAV h F a = a ∧ a.uses F = false) := by
    intro a ha
    cases hu : a.uses F with
    | true => rw [hu] at ha; exact .inr (.inl ⟨ha, rfl⟩)
    | false => rw [hu] at ha; exact .inr (.inr ⟨ha, rfl⟩)
  cases a with
  | ref id p =>
    cases p with
    | nil =>
      cases hm : memN id F with
      | true =>
        have hu : (AV.ref id []).uses F = true := by simp [AV.uses, AV.ids, hm]
        cases hl : lk h id with
        | none => exact .inr (.inl ⟨by simp [frzAV, hm, hl], hu⟩)
        | some t => exact .inl ⟨id, t, rfl, memN_iff.1 hm, hl, by simp [frzAV, hm, hl]⟩
      | false => exact .inr (.inr ⟨by simp [frzAV, hm], by simp [AV.uses, AV.ids, hm]⟩)
    | cons s p => exact gen _ rfl
  | _ => exact gen _ rfl

def frzS (F : List Nat) (st : St) : St := ⟨st.g.map fun q => (q.1, frzAV st.h F q.2), del F st.h⟩

theorem gt_map (f : AV → AV) (hf : f .dead = .dead) : ∀ (g : List (Nat × AV)) (k : Nat), gt (g.map fun q => (q.1, f q.2)) k = f (gt g k)
  | [], k => hf.symm
  | (k0, a) :: g, k => by
      show gt ((k0, f a) :: _) k = _
      rw [gt_cons, gt_cons]
      split
      · rfl
      · exact gt_map f hf g k

theorem frzS_gt (F : List Nat) (st : St) (k : Nat) : gt (frzS F st).g k = frzAV st.h F (gt st.g k) := gt_map (frzAV st.h F) rfl st.g k

theorem frzS_opA (F : List Nat) (st : St) : opA (frzS F st).g = fun x => frzAV st.h F (opA st.g x) := by
  funext x
  cases x with
  | tmp k => exact frzS_gt F st k
  | const v => cases v <;> rfl
  | func f => rfl
  | global g => rfl

theorem uses_nil' {F : List Nat} {a : AV} (h : a.uses F = false) (keep : List (Nat × List Step)) : kill1 F keep a = a := by
  unfold kill1
  rw [h]; rfl

section
variable {C : Ctx} {st : St} {tm : Array Value} {w : World}

theorem RelAt.freeze {I : Nat → Prop} {rt : Nat → List Value} {fp : Nat → List Nat} (hR : RelAt C st tm w I rt fp) {F : List Nat} (hF : ∀ id ∈ F, ∃ t, lk st.h id = some t ∧ frzOk t.1 = true) : Rel C (frzS F st) tm w := by
  have hu := hR.upd (S := F) (keep := []) (new := []) (rtn := rt) (fpn := fp) (w' := w) (I' := fun b => I b ∨ ∃ id ∈ F, ∃ t, lk st.h id = some t ∧ b ∈ fp id) ⟨Nat.le_refl _, rfl, rfl, rfl, fun _ _ _ => rfl, fun _ h => .inl h, fun b h => h.imp id fun ⟨id, hid, t, ht, hb⟩ =>
      ⟨((hR.tree id t ht).2.2 b hb).2.2.1, .inr ⟨id, hid, t, ht, hb⟩⟩, (fun _ _ h => by cases h), (fun _ _ _ _ h => by cases h), (fun _ h => by cases h)⟩
  refine ⟨_, _, _, { hu with tmp := fun k => ?_ }⟩
  rw [frzS_gt]
  rcases frzAV_cases st.h F (gt st.g k) with ⟨id, t, h1, h2, h3, h4⟩ | ⟨h1, _⟩ | ⟨h1, h2⟩
  · rw [h4]
    have hk := hR.tmp k
    rw [h1] at hk
    generalize tm.getD k undef = v at hk
    cases hk with | ref ht hn =>
    rw [h3] at ht; cases ht
    obtain ⟨rfl, rfl, rfl⟩ := Nav.nil_iff.1 hn
    obtain ⟨t', ht', hok⟩ := hF id h2
    rw [h3] at ht'; cases ht'
    have hreg : regV t.1 (rt id) = regV (frz t.1) (rt id) := by
      cases t.1 <;> rfl
    rw [hreg]
    refine .val (rep_frz (M := md I C.B) ?_ hok (hR.tree id t h3).1 (fun b hb => .inr ⟨id, h2, t, h3, hb⟩))
    intro m b hb
    cases m
    · exact .inl hb
    · exact hb.imp .inl (fun h => h)
  · rw [h1]; exact .dead _
  · rw [h1]
    have := hu.tmp k
    rw [show gt (St.mk (kill F [] st.g) ([] ++ del F st.h)).g k = gt st.g k by rw [gt_kill, uses_nil' h2]] at this
    exact this

/-- Less is known, place by place. -/
theorem Rel.less {st' : St} (h : Rel C st tm w) (hg : ∀ k, gt st'.g k = .dead ∨ gt st'.g k = gt st.g k) (hh : ∀ id, lk st'.h id = lk st.h id) : Rel C st' tm w := by
  obtain ⟨I, rt, fp, hR⟩ := h
  refine ⟨I, rt, fp, { hR with tree := fun id t ht => hR.tree id t (by rw [← hh]; exact ht), dis := fun i j t u hi hj => hR.dis i j t u (by rw [← hh]; exact hi) (by rw [← hh]; exact hj), tmp := fun k => ?_ }⟩
  rcases hg k with e | e
  · rw [e]; exact .dead _
  · rw [e]
    refine (hR.tmp k).monoOn (fun m b hb => ⟨hb, Sm.refl _ _⟩) (fun id _ t ht => ⟨by rw [hh]; exact ht, rfl, rfl, (hR.tree id t ht).1, fun _ _ => Sm.refl _ _⟩)
end

/-- The operands that an operation takes over. -/
def valOps : Op → List Operand
  | .build _ ps => ps.toList.map (·.2)
  | .buildSlice _ _ ps => ps.toList.map (·.2)
  | .store _ _ v => [v]
  | .box _ v => [v]
  | .assign v => [v]
  | .call c => match c.callee with
    | .value _ => c.args.toList
    | .builtin .append => c.args.toList.drop 1
    | _ => []
  | _ => []

def frzKey (o : Oper) : Nat := match o.dst with
  | some d => d
  | none => 999999

def frzIds (fz : List (Nat × Nat)) (k : Nat) (g : Operand → AV) : List Operand → List Nat
  | [] => []
  | x :: l => match g x with
    | .ref id [] => bif fz.any (fun q => Nat.beq q.1 k && Nat.beq q.2 id) then id :: frzIds fz k g l else frzIds fz k g l
    | _ => frzIds fz k g l
end Go.Fw
