/-
  The framework, part 28 (after 27, before 24): one operation as an effect on the abstract state.
-/
import Derived.Test.YtlalecmgnaoiiaaFw27
namespace Go.Fw

structure Eff where
  d : Option (Nat × AV)
  S : List Nat
  keep : List (Nat × List Step)
  put : List (Nat × Tree)

def killE (S : List Nat) (keep : List (Nat × List Step)) (g : List (Nat × AV)) : List (Nat × AV) := match S with
  | [] => g
  | _ => kill S keep g
def delE (S : List Nat) (h : List (Nat × Tree)) : List (Nat × Tree) := match S with
  | [] => h
  | _ => del S h
def Eff.app (e : Eff) (st : St) : St := ⟨match e.d with
  | some q => q :: killE e.S e.keep st.g
  | none => killE e.S e.keep st.g, e.put ++ delE e.S st.h⟩

theorem kill1q_nil (keep : List (Nat × List Step)) (a : AV) : kill1 [] keep a = a := by
  have : (a.ids.any fun i => memN i []) = false := by
    rw [List.any_eq_false]; intro i _; simp [memN]
  simp only [kill1, AV.uses, this, Bool.false_and, cond_false]
theorem kill_nil (keep : List (Nat × List Step)) : ∀ g : List (Nat × AV), kill [] keep g = g
  | [] => rfl
  | (k, a) :: g => by
      have := kill_nil keep g
      simp only [kill, List.map_cons, kill1q_nil] at this ⊢
      rw [this]
theorem del_nil : ∀ h : List (Nat × Tree), del [] h = h
  | [] => rfl
  | x :: h => by
      have := del_nil h
      simp only [del] at this ⊢
      rw [List.filter_cons, if_pos (by simp [memN]), this]
theorem killE_eq (S : List Nat) (keep : List (Nat × List Step)) (g : List (Nat × AV)) : killE S keep g = kill S keep g := by
  cases S
  · exact (kill_nil keep g).symm
  · rfl
theorem delE_eq (S : List Nat) (h : List (Nat × Tree)) : delE S h = del S h := by
  cases S
  · exact (del_nil h).symm
  · rfl

/-- A store. -/
def stoE {β : Type} (tt : List (TypeId × Ty)) (h : List (Nat × Tree)) (T : TypeId) (x v : AV) (K : Eff → Option β) : Option β :=
  match placeOf h x with
  | none => none
  | some (id, p) => match lk h id, lk tt T with
    | some τz, some u => match tyAt τz.1 p with
      | none => none
      | some τ' => bif sameLay u τ' then match v with
        | .ref id2 p2 => match lk h id2 with
          | some τy => bif Nat.beq id id2 then none else (getF τy.1 τy.2 p2 τ').bind fun y => (setF τz.1 τz.2 p τ' y).bind fun z' => K ⟨none, [id, id2], [(id, p)], [(id, ⟨τz.1, z'⟩)]⟩
          | none => none
        | .app id2 p2 σ ys own => match castT (τ := .osl σ) τ' ys with
          | some _ => bif Nat.beq id2 id && pathEq p2 p then (getF τz.1 τz.2 p (.osl σ)).bind fun xs => (setF τz.1 τz.2 p (.osl σ) (xs ++ ys)).bind fun z' => K ⟨none, id :: own, [(id, p)], [(id, ⟨τz.1, z'⟩)]⟩ else none
          | none => none
        | v => match coe τ' v with
          | some y => (setF τz.1 τz.2 p τ' y).bind fun z' => K ⟨none, [id], [(id, p)], [(id, ⟨τz.1, z'⟩)]⟩
          | none => none
      else none
    | _, _ => none

theorem stoE_ok {β : Type} {r : β} {K : Eff → Option β} {tt : List (TypeId × Ty)} {st : St} {T : TypeId} {x v : AV} {Q : St → Prop} (h : stoE tt st.h T x v K = some r) (hq : ∀ e, K e = some r → Q (e.app st)) : (stoF tt st T x v).K Q := by
  unfold stoE at h
  unfold stoF
  split at h
  · cases h
  rename_i id p hp
  rw [hp]
  simp only
  split at h
  case h_2 => cases h
  rename_i τz u ht hT
  obtain ⟨τ, z⟩ := τz
  rw [ht, hT]
  simp only at h ⊢
  split at h
  · cases h
  rename_i τ' hτ
  rw [hτ]
  simp only
  cases hb : sameLay u τ' with
  | false => rw [hb] at h; cases h
  | true =>
  rw [hb] at h
  simp only [cond_true] at h ⊢
  split at h
  · rename_i id2 p2
    split at h
    case h_2 => cases h
    rename_i τy ht2
    obtain ⟨τ2, y2⟩ := τy
    cases hbe : Nat.beq id id2 with
    | true => rw [hbe] at h; cases h
    | false =>
    rw [hbe] at h
    obtain ⟨y, hy, h⟩ := Option.bind_eq_some_iff.1 h
    obtain ⟨z', hz, h⟩ := Option.bind_eq_some_iff.1 h
    simp only [ht2, hbe, cond_false]
    exact ⟨(y, z'), ⟨getF_ok hy, setF_ok hz⟩, hq _ h⟩
  · rename_i id2 p2 σ ys own
    split at h
    case h_2 => cases h
    rename_i y hy
    cases castT_some hy
    cases hbe : (Nat.beq id2 id && pathEq p2 p) with
    | false => rw [hbe] at h; cases h
    | true =>
    rw [hbe] at h
    simp only [Bool.and_eq_true] at hbe
    obtain ⟨xs, hx, h⟩ := Option.bind_eq_some_iff.1 h
    obtain ⟨z', hz, h⟩ := Option.bind_eq_some_iff.1 h
    simp only [dif_pos]
    exact ⟨(xs, z'), ⟨Nat.eq_of_beq_eq_true hbe.1, pathEq.ok hbe.2, getF_ok hx, setF_ok hz⟩, hq _ h⟩
  · rename_i v h1 h2
    split at h
    case h_2 => cases h
    rename_i y hy
    obtain ⟨z', hz, h⟩ := Option.bind_eq_some_iff.1 h
    split
    · rename_i id2 p2; exact (h1 id2 p2 rfl).elim
    · rename_i id2 p2 σ ys own; exact (h2 id2 p2 σ ys own rfl).elim
    · rw [hy]; exact ⟨z', setF_ok hz, hq _ h⟩

/-- What is appended. -/
def ysN (h : List (Nat × Tree)) (σ : Ty) (y : AV) : Option (List σ.den) :=
  match y with
  | .val (.slc _ t) ys => castT (τ := .osl t) (.osl σ) ys
  | .cv (.slice none 0 0) => some []
  | .ref id p => match lk h id with
    | some τx => bif σ.pure then getF τx.1 τx.2 p (.osl σ) else none
    | none => none
  | .view id p lo hi => match lk h id with
    | some τx => bif σ.pure then (getF τx.1 τx.2 p (.osl σ)).bind fun ys => some ((ys.take hi).drop lo) else none
    | none => none
  | _ => none

def YRes.Is {σ : Ty} (r : YRes σ) (ys : List σ.den) : Prop :=
  match r with
  | .tot z => z = ys
  | .part _ φ f => ∃ q, φ q ∧ f q = ys
  | .bad => False

theorem ysN_ok {h : List (Nat × Tree)} {σ : Ty} {y : AV} {ys : List σ.den} (hy : ysN h σ y = some ys) : (ysF h σ y).Is ys := by
  unfold ysN at hy
  unfold ysF
  split at hy
  · rename_i m t zs
    cases castT_some hy
    simp only [dif_pos]
    rfl
  · cases hy; rfl
  · rename_i id p
    split at hy
    case h_2 => cases hy
    rename_i τx ht
    obtain ⟨τ, x⟩ := τx
    simp only [ht]
    cases hp : σ.pure with
    | false => rw [hp] at hy; cases hy
    | true => rw [hp] at hy; exact ⟨ys, getF_ok hy, rfl⟩
  · rename_i id p lo hi
    split at hy
    case h_2 => cases hy
    rename_i τx ht
    obtain ⟨τ, x⟩ := τx
    simp only [ht]
    cases hp : σ.pure with
    | false => rw [hp] at hy; cases hy
    | true =>
      rw [hp] at hy
      obtain ⟨zs, hz, hy⟩ := Option.bind_eq_some_iff.1 hy
      cases hy
      exact ⟨zs, getF_ok hz, rfl⟩
  · cases hy

theorem YRes.Is.to {σ : Ty} {r : YRes σ} {ys : List σ.den} (h : r.Is ys) {g : Nat → Prop} {f : List σ.den → St} {Q : St → Prop} (hg : g ys.length) (hq : Q (f ys)) : (r.to g f).K Q := by
  cases r with
  | tot z => obtain rfl : z = ys := h; exact ⟨(), hg, hq⟩
  | part α φ k => obtain ⟨q, h1, rfl⟩ := h; exact ⟨q, ⟨h1, hg⟩, hq⟩
  | bad => exact h.elim

/-- An append. -/
def appE {β : Type} (tt : List (TypeId × Ty)) (an : List (Nat × Ty)) (h : List (Nat × Tree)) (d : Nat) (T : TypeId) (x y : AV) (K : Eff → Option β) : Option β :=
  match isSlcT tt T with
  | none => none
  | some u => match x with
    | .ref id [] => match lk h id with
      | some ⟨.osl σ, xs⟩ => bif sameLay u σ && Nat.ble σ.size 1300 then
          match σ.pure with
          | true => (ysN h σ y).bind fun ys => (limO (xs.length + ys.length)).bind fun _ => K ⟨some (d, .ref d []), [id, d], [], [(d, ⟨.osl σ, xs ++ ys⟩)]⟩
          | false => match y with
            | .ref id2 [] => match lk h id2 with
              | some τy => match castT (.osl σ) τy.2 with
                | some ys => bif Nat.beq id id2 then none else (limO (xs.length + List.length (α := σ.den) ys)).bind fun _ => K ⟨some (d, .ref d []), [id, id2, d], [], [(d, ⟨.osl σ, List.append (α := σ.den) xs ys⟩)]⟩
                | none => none
              | none => none
            | _ => none
        else none
      | _ => none
    | .ref id p => match lk h id, lk h d with
      | some τx, none => match tyAt τx.1 p with
        | some (.osl σ) => bif sameLay u σ && Nat.ble σ.size 1300 && σ.nb then
            (getF τx.1 τx.2 p (.osl σ)).bind fun xs => (ysN h σ y).bind fun ys => (limO (List.length (α := σ.den) xs + ys.length)).bind fun _ =>
              K ⟨some (d, .app id p σ ys [d]), [id], [(id, [])], [(d, ⟨.blk, ()⟩), (id, τx)]⟩
          else none
        | _ => none
      | _, _ => none
    | .cv (.slice none 0 0) => match lk an d with
      | some (.osl σ) => bif sameLay u σ && Nat.ble σ.size 1300 then
          (ysN h σ y).bind fun ys => (limO ys.length).bind fun _ => K ⟨some (d, .ref d []), [d], [], [(d, ⟨.osl σ, ys⟩)]⟩
        else none
      | _ => none
    | _ => none

theorem appE_ok {β : Type} {r : β} {K : Eff → Option β} {tt : List (TypeId × Ty)} {an : List (Nat × Ty)} {st : St} {d : Nat} {T : TypeId} {x y : AV} {Q : St → Prop} (h : appE tt an st.h d T x y K = some r) (hq : ∀ e, K e = some r → Q (e.app st)) : (appF tt an st d T x y).K Q := by
  unfold appE at h
  unfold appF
  split at h
  · cases h
  rename_i u hu
  rw [hu]
  simp only
  split at h
  · rename_i id
    simp only
    split at h
    case h_2 => cases h
    rename_i σ xs ht
    rw [ht]
    simp only
    cases hb : (sameLay u σ && Nat.ble σ.size 1300) with
    | false => rw [hb] at h; cases h
    | true =>
    rw [hb] at h
    simp only [cond_true] at h ⊢
    split at h
    · rename_i hp
      rw [hp]
      obtain ⟨ys, hy, h⟩ := Option.bind_eq_some_iff.1 h
      obtain ⟨_, hl, h⟩ := Option.bind_eq_some_iff.1 h
      exact (ysN_ok hy).to (limO_some hl) (hq _ h)
    · rename_i hp
      rw [hp]
      split at h
      case h_2 => cases h
      rename_i id2
      split at h
      case h_2 => cases h
      rename_i τy ht2
      obtain ⟨τ2, y2⟩ := τy
      split at h
      case h_2 => cases h
      rename_i ys hy
      cases castT_some hy
      cases hbe : Nat.beq id id2 with
      | true => rw [hbe] at h; cases h
      | false =>
      rw [hbe] at h
      obtain ⟨_, hl, h⟩ := Option.bind_eq_some_iff.1 h
      simp only [ht2, dif_pos, hbe, cond_false]
      exact ⟨(), limO_some hl, hq _ h⟩
  · rename_i id p hp
    split at h
    case h_2 => cases h
    rename_i τx ht hdn
    obtain ⟨τ, z⟩ := τx
    simp only at h
    split at h
    case h_2 => cases h
    rename_i σ hτ
    cases hb : (sameLay u σ && Nat.ble σ.size 1300 && σ.nb) with
    | false => rw [hb] at h; cases h
    | true =>
    rw [hb] at h
    obtain ⟨xs, hx, h⟩ := Option.bind_eq_some_iff.1 h
    obtain ⟨ys, hy, h⟩ := Option.bind_eq_some_iff.1 h
    obtain ⟨_, hl, h⟩ := Option.bind_eq_some_iff.1 h
    have hl := limO_some hl
    have hy := ysN_ok hy
    have hx := getF_ok hx
    cases p with
    | nil => exact (hp rfl).elim
    | cons s p =>
    simp only [ht, hdn, hτ, hb, cond_true]
    split
    · rename_i zs hz
      rw [hz] at hy
      obtain rfl : zs = ys := hy
      exact ⟨xs, ⟨hx, hl⟩, hq _ h⟩
    · rename_i α φ f hz
      rw [hz] at hy
      obtain ⟨q, h1, rfl⟩ := hy
      exact ⟨(xs, q), ⟨hx, h1, hl⟩, hq _ h⟩
    · rename_i hz
      rw [hz] at hy
      exact hy.elim
  · simp only
    split at h
    case h_2 => cases h
    rename_i σ han
    rw [han]
    simp only
    cases hb : (sameLay u σ && Nat.ble σ.size 1300) with
    | false => rw [hb] at h; cases h
    | true =>
    rw [hb] at h
    simp only [cond_true] at h ⊢
    obtain ⟨ys, hy, h⟩ := Option.bind_eq_some_iff.1 h
    obtain ⟨_, hl, h⟩ := Option.bind_eq_some_iff.1 h
    exact (ysN_ok hy).to (limO_some hl) (hq _ h)
  · cases h

/-- An assignment that is no plain value. -/
def asgE (an : List (Nat × Ty)) (h : List (Nat × Tree)) (d : Nat) (v : AV) : Option Eff :=
  match v with
  | .ref id [] => match lk h id with
    | some t => some ⟨some (d, .ref d []), [id, d], [], [(d, t)]⟩
    | none => none
  | .ref id p => bif Nat.beq id d then none else some ⟨some (d, .ref id p), [d], [], []⟩
  | .view id [] lo hi => match lk h id with
    | some ⟨.osl t, xs⟩ => some ⟨some (d, .ref d []), [id, d], [], [(d, ⟨.osl t, (xs.take hi).drop lo⟩)]⟩
    | _ => none
  | .cv (.slice none 0 0) => match lk an d with
    | some (.osl t) => some ⟨some (d, .ref d []), [d], [], [(d, ⟨.osl t, []⟩)]⟩
    | _ => none
  | _ => none

theorem asgE_ok {an : List (Nat × Ty)} {st : St} {d : Nat} {v : AV} {e : Eff} {Q : St → Prop} (h : asgE an st.h d v = some e) (hq : Q (e.app st)) : (asgF an st d v).K Q := by
  unfold asgE at h
  unfold asgF
  split at h
  · split at h
    · rename_i t ht; cases h; simp only [ht]; exact hq
    · cases h
  · rename_i id p hp
    cases hb : Nat.beq id d with
    | true => rw [hb] at h; cases h
    | false =>
    rw [hb] at h
    cases h
    cases p with
    | nil => exact (hp rfl).elim
    | cons s p => simp only [hb, cond_false]; exact hq
  · split at h
    · rename_i t xs ht; cases h; simp only [ht]; exact hq
    · cases h
  · split at h
    · rename_i t ht; cases h; simp only [ht]; exact hq
    · cases h
  · cases h
end Go.Fw
