/-
  The framework, part 23: an interpreter of code in plain mathematics: shapes, joins, arguments.
-/
import Derived.Test.YtlalecmgnaoiiaaFw22
namespace Go.Fw

open Classical in
noncomputable def pick {α : Type} (φ : α → Prop) : Option α := if h : ∃ y, φ y then some h.choose else none

theorem pick_some {α : Type} {φ : α → Prop} {y : α} (h : pick φ = some y) : φ y := by
  unfold pick at h
  split at h
  · rename_i hh
    cases h
    exact hh.choose_spec
  · cases h

theorem pick_eq {α : Type} {φ : α → Prop} {o : Option α} (h : ∀ y, φ y ↔ o = some y) : pick φ = o := by
  cases ho : o with
  | none =>
    unfold pick
    rw [dif_neg]
    rintro ⟨y, hy⟩
    have := (h y).1 hy
    rw [ho] at this; cases this
  | some y =>
    unfold pick
    have hh : ∃ y, φ y := ⟨y, (h y).2 ho⟩
    rw [dif_pos hh]
    have := (h _).1 hh.choose_spec
    rw [ho] at this
    exact this.symm

/-- What a slot holds at a join: a value that varies, or a fixed abstract value. -/
inductive SK where
  | v (τ : Ty)
  | s (a : AV)

structure Shp where
  g : List (Nat × SK)
  h : List (Nat × Ty)

@[reducible] def shG : List (Nat × SK) → Type → Type
  | [], r => r
  | (_, .v τ) :: l, r => τ.den × shG l r
  | (_, .s _) :: l, r => shG l r
@[reducible] def shH : List (Nat × Ty) → Type
  | [] => Unit
  | (_, τ) :: l => τ.den × shH l
@[reducible] def Shp.den (sh : Shp) : Type := shG sh.g (shH sh.h)

def embG {r : Type} : (l : List (Nat × SK)) → shG l r → List (Nat × AV)
  | [], _ => []
  | (d, .v τ) :: l, s => (d, .val τ s.1) :: embG l s.2
  | (d, .s a) :: l, s => (d, a) :: embG l s
def embR {r : Type} : (l : List (Nat × SK)) → shG l r → r
  | [], s => s
  | (_, .v _) :: l, s => embR l s.2
  | (_, .s _) :: l, s => embR l s
def embH : (l : List (Nat × Ty)) → shH l → List (Nat × Tree)
  | [], _ => []
  | (d, τ) :: l, s => (d, ⟨τ, s.1⟩) :: embH l s.2
def emb (sh : Shp) (s : sh.den) : St := ⟨embG sh.g s, embH sh.h (embR sh.g s)⟩

def castT {τ : Ty} (υ : Ty) (x : τ.den) : Option υ.den := if e : τ = υ then some (e ▸ x) else none
theorem castT_some {τ υ : Ty} {x : τ.den} {y : υ.den} (h : castT υ x = some y) : (⟨τ, x⟩ : Tree) = ⟨υ, y⟩ := by
  unfold castT at h
  split at h
  · rename_i e; subst e; cases h; rfl
  · cases h

def stepEq : Step → Step → Bool
  | .idx i, .idx j => Nat.beq i j
  | .deref, .deref | .unst, .unst | .fst, .fst | .snd, .snd => true
  | _, _ => false
theorem stepEq.ok {a b : Step} (h : stepEq a b = true) : a = b := by
  cases a <;> cases b <;> first | rfl | (cases h; done) | (rw [Nat.eq_of_beq_eq_true h])
def pathEq : List Step → List Step → Bool
  | [], [] => true
  | a :: p, b :: q => stepEq a b && pathEq p q
  | _, _ => false
theorem pathEq.ok : ∀ {p q : List Step}, pathEq p q = true → p = q
  | [], [], _ => rfl
  | [], _ :: _, h => by cases h
  | _ :: _, [], h => by cases h
  | a :: p, b :: q, h => by
      simp only [pathEq, Bool.and_eq_true] at h
      rw [stepEq.ok h.1, pathEq.ok h.2]

def avEq : AV → AV → Bool
  | .ref i p, .ref j q => Nat.beq i j && pathEq p q
  | .addr i p, .addr j q => Nat.beq i j && pathEq p q
  | _, _ => false
theorem avEq.ok {a b : AV} (h : avEq a b = true) : a = b := by
  cases a <;> cases b <;> first | (cases h; done) | (simp only [avEq, Bool.and_eq_true] at h; rw [Nat.eq_of_beq_eq_true h.1, pathEq.ok h.2])

def projG {r : Type} (g : List (Nat × AV)) (o : Option r) : (l : List (Nat × SK)) → Option (shG l r)
  | [] => o
  | (d, .v τ) :: l => match gt g d with
    | .val _ x => match castT τ x with
      | some y => (projG g o l).map (fun q => (y, q))
      | none => none
    | _ => none
  | (d, .s a) :: l => match avEq a (gt g d) with
    | true => projG g o l
    | false => none
def projH (h : List (Nat × Tree)) : (l : List (Nat × Ty)) → Option (shH l)
  | [] => some ()
  | (d, τ) :: l => match lk h d with
    | some t => match castT τ t.2 with
      | some y => (projH h l).map (fun q => (y, q))
      | none => none
    | none => none
def hasId : List (Nat × Ty) → Nat → Bool
  | [], _ => false
  | (k, _) :: r, n => bif Nat.beq k n then true else hasId r n
def shIds : List (Nat × SK) → List (Nat × Ty) → Bool
  | [], _ => true
  | (_, .v _) :: l, h => shIds l h
  | (_, .s a) :: l, h => (a.ids.all fun id => hasId h id) && shIds l h
def proj (sh : Shp) (st : St) : Option sh.den := bif shIds sh.g sh.h then projG st.g (projH st.h sh.h) sh.g else none

theorem embH_has : ∀ {l : List (Nat × Ty)} {s : shH l} {id : Nat}, hasId l id = true → (lk (embH l s) id).isSome = true
  | [], _, _, h => by cases h
  | (k, τ) :: l, s, id, h => by
      simp only [hasId] at h
      simp only [embH, lk]
      cases hb : Nat.beq k id with
      | true => rfl
      | false => rw [hb] at h; exact embH_has (by simpa using h)

theorem projG_ok {r : Type} {st : St} {o : Option r} : ∀ {l : List (Nat × SK)} {s : shG l r}, projG st.g o l = some s → covG (embG l s) st ∧ o = some (embR l s)
  | [], s, h => ⟨trivial, h⟩
  | (d, .v τ) :: l, s, h => by
      simp only [projG] at h
      split at h
      case h_2 => cases h
      rename_i τ' x hx
      split at h
      case h_2 => cases h
      rename_i y hy
      obtain ⟨q, hq, rfl⟩ := Option.map_eq_some_iff.1 h
      obtain ⟨h1, h2⟩ := projG_ok hq
      refine ⟨⟨?_, h1⟩, h2⟩
      rw [hx]
      cases castT_some hy
      rfl
  | (d, .s a) :: l, s, h => by
      simp only [projG] at h
      split at h
      case h_2 => cases h
      rename_i ha
      obtain ⟨h1, h2⟩ := projG_ok h
      exact ⟨⟨(avEq.ok ha).symm, h1⟩, h2⟩

theorem projH_ok {st : St} : ∀ {l : List (Nat × Ty)} {s : shH l}, projH st.h l = some s → covH (embH l s) st
  | [], s, h => trivial
  | (d, τ) :: l, s, h => by
      simp only [projH] at h
      split at h
      case h_2 => cases h
      rename_i t ht
      split at h
      case h_2 => cases h
      rename_i y hy
      obtain ⟨q, hq, rfl⟩ := Option.map_eq_some_iff.1 h
      refine ⟨?_, projH_ok hq⟩
      rw [ht]
      cases t
      rw [castT_some hy]

theorem shIds_ok {r : Type} {hl : List (Nat × Ty)} {t : shH hl} : ∀ {l : List (Nat × SK)} {s : shG l r}, shIds l hl = true → idsIn (embG l s) (embH hl t) = true
  | [], s, h => rfl
  | (d, .v τ) :: l, s, h => by
      have := shIds_ok (r := r) (t := t) (l := l) (s := s.2) h
      simp only [idsIn, embG, List.all_cons, AV.ids, List.all_nil, Bool.true_and] at this ⊢
      exact this
  | (d, .s a) :: l, s, h => by
      simp only [shIds, Bool.and_eq_true] at h
      have := shIds_ok (r := r) (t := t) (l := l) (s := s) h.2
      simp only [idsIn, embG, List.all_cons, Bool.and_eq_true] at this ⊢
      refine ⟨?_, this⟩
      rw [List.all_eq_true] at h ⊢
      exact fun id hid => embH_has (h.1 id hid)

theorem proj_ok {sh : Shp} {st : St} {s : sh.den} (h : proj sh st = some s) : covG (emb sh s).g st ∧ covH (emb sh s).h st ∧ idsIn (emb sh s).g (emb sh s).h = true := by
  unfold proj at h
  cases hb : shIds sh.g sh.h with
  | false => rw [hb] at h; cases h
  | true =>
    rw [hb] at h
    obtain ⟨h1, h2⟩ := projG_ok h
    exact ⟨h1, projH_ok h2, shIds_ok hb⟩

/-- How a parameter is handed over. -/
inductive PM where
  | v (τ : Ty)
  | m (τ : Ty)
  | o (τ : Ty)

@[reducible] def prodP : List PM → Type
  | [] => Unit
  | .v τ :: l => τ.den × prodP l
  | .m τ :: l => τ.den × prodP l
  | .o τ :: l => τ.den × prodP l
@[reducible] def outP : List PM → Type → Type
  | [], r => r
  | .m τ :: l, r => τ.den × outP l r
  | .v _ :: l, r => outP l r
  | .o _ :: l, r => outP l r
@[reducible] def prodT : List Ty → Type
  | [] => Unit
  | τ :: l => τ.den × prodT l

structure Fun where
  f : Nat
  ps : List PM
  rs : List Ty
  sem : prodP ps → Option (outP ps (prodT rs))

def mkA {r : Type} : (ps : List PM) → prodP ps → outP ps r → List Arg
  | [], _, _ => []
  | .v τ :: l, a, b => .v ⟨τ, a.1⟩ :: mkA l a.2 b
  | .m τ :: l, a, b => .m ⟨τ, a.1⟩ b.1 :: mkA l a.2 b.2
  | .o τ :: l, a, b => .o ⟨τ, a.1⟩ :: mkA l a.2 b
def outR {r : Type} : (ps : List PM) → outP ps r → r
  | [], b => b
  | .m _ :: l, b => outR l b.2
  | .v _ :: l, b => outR l b
  | .o _ :: l, b => outR l b
def mkR : (rs : List Ty) → prodT rs → List Tree
  | [], _ => []
  | τ :: l, s => ⟨τ, s.1⟩ :: mkR l s.2

def OkFun (E : Env) (F : Fun) : Prop :=
  (∀ (vs : Array Value) (w : World), (callFunc F.f vs).run E.P w = .ok (.enter F.f vs) w) ∧ ∀ a b, F.sem a = some b → CallOk E F.f (mkA F.ps a b) (mkR F.rs (outR F.ps b))

/-- The value at a path. -/
def getF : (τ : Ty) → τ.den → List Step → (τ' : Ty) → Option τ'.den
  | _, x, [], τ' => castT τ' x
  | .osl t, xs, .idx i :: p, τ' => match xs[i]? with
    | some e => getF t e p τ'
    | none => none
  | .optr t, x, .deref :: p, τ' => getF t x p τ'
  | .st t, x, .unst :: p, τ' => getF t x p τ'
  | .pr a _, x, .fst :: p, τ' => getF a x.1 p τ'
  | .pr _ b, x, .snd :: p, τ' => getF b x.2 p τ'
  | _, _, _, _ => none

theorem getF_nil {τ : Ty} {x : τ.den} {τ' : Ty} : getF τ x [] τ' = castT τ' x := by cases τ <;> rfl

theorem getF_ok : ∀ {p : List Step} {τ : Ty} {x : τ.den} {τ' : Ty} {y : τ'.den}, getF τ x p τ' = some y → GetP τ x p τ' y
  | [], τ, x, τ', y, h => by
      rw [getF_nil] at h
      cases castT_some h
      exact GetP.nil_iff.2 ⟨rfl, rfl⟩
  | s :: p, τ, x, τ', y, h => by
      cases τ <;> cases s <;> simp only [getF] at h <;> try (cases h; done)
      case osl.idx t i =>
        split at h
        · rename_i e he; exact ⟨e, he, getF_ok h⟩
        · cases h
      case optr.deref t => exact getF_ok (τ := t) h
      case st.unst t => exact getF_ok (τ := t) h
      case pr.fst a b => exact getF_ok (τ := a) h
      case pr.snd a b => exact getF_ok (τ := b) h

def pas {τ' : Ty} (x : τ'.den) (τ : Ty) : Option τ.den := if e : borOk τ' τ = true then some (cast (borOk.den e) x) else none
theorem pas_ok {τ' τ : Ty} {x : τ'.den} {y : τ.den} (h : pas x τ = some y) : PassV τ' x τ y := by
  unfold pas at h
  split at h
  · rename_i e; cases h; exact .same e (cast_heq _ _).symm
  · cases h

def pasR : (τ' : Ty) → τ'.den → (τ : Ty) → Option τ.den
  | .optr t, x, .ptr .bor u => (pas (τ' := t) x u).map some
  | _, x, τ => pas x τ
theorem pasR_ok {τ' τ : Ty} {x : τ'.den} {y : τ.den} (h : pasR τ' x τ = some y) : PassV τ' x τ y := by
  unfold pasR at h
  split at h
  · obtain ⟨z, hz, rfl⟩ := Option.map_eq_some_iff.1 h
    simp only [pas] at hz
    split at hz
    · rename_i e; cases hz; exact .ptr e (cast_heq _ _).symm
    · cases hz
  · exact pas_ok h

def cvOk : Ty → Value → Bool
  | τ, .agg _ => isSt τ
  | _, .tuple _ => false
  | τ, _ => !isSt τ
theorem cvOk.ok {τ : Ty} {v : Value} (h : cvOk τ v = true) : regV τ v.cells.toList = v := by
  cases v <;> simp only [cvOk] at h <;> first
    | (cases h; done)
    | (rw [regV_of_st h]; rfl)
    | (rw [Bool.not_eq_true'] at h; rw [regV_of_not_st h]; rfl)

/-- An abstract value as an argument that is only read. -/
def argV (h : List (Nat × Tree)) (S : List Nat) : AV → (τ : Ty) → Option τ.den
  | .val _ x, τ => pas x τ
  | .cv v, τ => bif cvOk τ v then cvC τ v.cells.toList else none
  | .ref id p, τ => match memN id S with
    | true => none
    | false => match lk h id with
      | none => none
      | some t => match tyAt t.1 p with
        | none => none
        | some τ' => match getF t.1 t.2 p τ' with
          | none => none
          | some y => pasR τ' y τ
  | _, _ => none

theorem argV_ok {h : List (Nat × Tree)} {S : List Nat} {av : AV} {τ : Ty} {x : τ.den} (hh : argV h S av τ = some x) : ArgAt h S av (.v ⟨τ, x⟩) := by
  cases av with
  | val τ' y => exact pas_ok hh
  | cv v =>
    simp only [argV] at hh
    cases hb : cvOk τ v with
    | false => rw [hb] at hh; cases hh
    | true => rw [hb] at hh; exact ⟨hh, cvOk.ok hb⟩
  | ref id p =>
    simp only [argV] at hh
    split at hh
    · cases hh
    rename_i hS
    split at hh
    · cases hh
    rename_i t ht
    split at hh
    · cases hh
    rename_i τ' hτ
    split at hh
    · cases hh
    rename_i y hy
    have : memN id S = false ∧ ∃ tr τ' y, lk h id = some tr ∧ GetP tr.1 tr.2 p τ' y ∧ PassV τ' y τ x := ⟨hS, t, τ', y, ht, getF_ok hy, pasR_ok hh⟩
    cases p <;> exact this
  | _ => cases hh

def takenP : List AV → List PM → List Nat
  | .ref id [] :: as, .m _ :: bs => id :: takenP as bs
  | .ref id [] :: as, .o _ :: bs => id :: takenP as bs
  | _ :: as, _ :: bs => takenP as bs
  | _, _ => []

def getA (h : List (Nat × Tree)) (S : List Nat) : (ps : List PM) → List AV → Option (prodP ps)
  | [], [] => some ()
  | .v τ :: l, av :: as => match argV h S av τ with
    | some x => (getA h S l as).map (fun q => (x, q))
    | none => none
  | .m τ :: l, .ref id [] :: as => bif τ.nob && vtB τ then match lk h id with
      | some t => match castT τ t.2 with
        | some x => (getA h S l as).map (fun q => (x, q))
        | none => none
      | none => none else none
  | .o τ :: l, .ref id [] :: as => match lk h id with
      | some t => match castT τ t.2 with
        | some x => (getA h S l as).map (fun q => (x, q))
        | none => none
      | none => none
  | _, _ => none

theorem takenP_eq {r : Type} : ∀ {ps : List PM} {a : prodP ps} {b : outP ps r} {avs : List AV}, takenIds avs (mkA ps a b) = takenP avs ps
  | [], a, b, avs => by cases avs with | nil => rfl | cons x l => cases x <;> first | rfl | (rename_i id p; cases p <;> rfl)
  | p :: l, a, b, [] => by cases p <;> rfl
  | p :: l, a, b, av :: avs => by
      have ih := fun a b => takenP_eq (r := r) (ps := l) (a := a) (b := b) (avs := avs)
      cases p <;> cases av <;> first | exact ih _ _ | (rename_i id q; cases q <;> simp only [mkA, takenIds, takenP, ih])

theorem getA_ok {r : Type} {h : List (Nat × Tree)} {S : List Nat} : ∀ {ps : List PM} {a : prodP ps} {b : outP ps r} {avs : List AV}, getA h S ps avs = some a → ArgsAt h S avs (mkA ps a b)
  | [], a, b, [], _ => trivial
  | [], a, b, _ :: _, hh => by cases hh
  | p :: l, a, b, [], hh => by cases p <;> cases hh
  | .v τ :: l, a, b, av :: avs, hh => by
      simp only [getA] at hh
      split at hh
      case h_2 => cases hh
      rename_i x hx
      obtain ⟨q, hq, rfl⟩ := Option.map_eq_some_iff.1 hh
      exact ⟨argV_ok hx, getA_ok hq⟩
  | .m τ :: l, a, b, av :: avs, hh => by
      cases av with
      | ref id p => cases p with
        | cons => cases hh
        | nil =>
          simp only [getA] at hh
          cases hb : (τ.nob && vtB τ) with
          | false => rw [hb] at hh; cases hh
          | true =>
            rw [hb] at hh
            simp only [Bool.and_eq_true] at hb
            simp only [cond_true] at hh
            split at hh
            case h_2 => cases hh
            rename_i t ht
            split at hh
            case h_2 => cases hh
            rename_i x hx
            obtain ⟨q, hq, rfl⟩ := Option.map_eq_some_iff.1 hh
            refine ⟨⟨?_, hb.1, hb.2⟩, getA_ok hq⟩
            rw [ht, ← castT_some hx]
      | _ => cases hh
  | .o τ :: l, a, b, av :: avs, hh => by
      cases av with
      | ref id p => cases p with
        | cons => cases hh
        | nil =>
          simp only [getA] at hh
          split at hh
          case h_2 => cases hh
          rename_i t ht
          split at hh
          case h_2 => cases hh
          rename_i x hx
          obtain ⟨q, hq, rfl⟩ := Option.map_eq_some_iff.1 hh
          refine ⟨?_, getA_ok hq⟩
          show lk h id = some _
          rw [ht, ← castT_some hx]
      | _ => cases hh
end Go.Fw
