/-
  The framework, part 17: one operation, whatever it is (but a call); lists of operations; code.
-/
import Derived.Test.YtlalecmgnaoiiaaFw16
namespace Go.Fw

section
variable {E : Env} {C : Ctx} {st : St} {o : Oper} {Q : St → Prop}

theorem OK1.app {an : List (Nat × Ty)} {T : TypeId} {x y : Operand} {d : Nat} (ho : o.op = .call { callee := .builtin .append, args := #[x, y], argTypes := #[T, T] }) (hd : o.dst = some d) (hdn : C.ok d)
    (h : (appF E.tt an st d T (opA st.g x) (opA st.g y)).K Q) : OK1 E C o st Q := by
  rintro a w ⟨I, rt, fp, hR⟩ next X hnext
  have hx := hR.opA x
  unfold appF at h
  split at h
  · exact h.elim
  rename_i u hT
  split at h
  · -- a tree of its own
    rename_i id ex
    split at h
    case h_2 => exact h.elim
    rename_i σ xs ht
    cases hb : (sameLay u σ && Nat.ble σ.size 1300) with
    | false => rw [hb] at h; exact h.elim
    | true =>
    rw [hb] at h
    simp only [Bool.and_eq_true] at hb
    obtain ⟨hl, hsz⟩ := hb
    have hsz := Nat.le_of_ble_eq_true hsz
    simp only [cond_true] at h
    rw [ex] at hx
    generalize hvx : a.eval x = vx at hx
    cases hx with | ref ht' hn =>
    rw [ht] at ht'; cases ht'
    obtain ⟨e1, _, e3⟩ := Nav.nil_iff.1 hn
    subst e1; subst e3
    obtain ⟨r1, r2, r3⟩ := hR.tree id _ ht
    obtain ⟨ad, cap, hcs, _⟩ := (show Rep (md I C.B) w (.osl σ) (rt id) xs (fp id) from r1)
    have hvx' : a.eval x = .slice ad xs.length cap := by rw [hvx]; show (rt id).headD undef = _; rw [hcs]; rfl
    have r1' : Rep (md I C.B) w (.osl σ) [.slice ad xs.length cap] xs (fp id) := by rw [← hcs]; exact r1
    split at h
    · rename_i id2 hp ey
      split at h
      case h_2 => exact h.elim
      rename_i σ2 ys ht2
      split at h
      case isFalse => exact h.elim
      rename_i e
      subst e
      cases hbe : Nat.beq id id2 with
      | true => rw [hbe] at h; exact h.elim
      | false =>
      rw [hbe] at h
      have hne : id ≠ id2 := fun e => by rw [e, Nat.beq_refl] at hbe; cases hbe
      obtain ⟨_, hlim, h⟩ := h
      have hy := hR.opA y
      rw [ey] at hy
      generalize hvy : a.eval y = vy at hy
      cases hy with | ref ht2' hn2 =>
      rw [ht2] at ht2'; cases ht2'
      obtain ⟨e1, _, e3⟩ := Nav.nil_iff.1 hn2
      subst e1; subst e3
      obtain ⟨s1, s2, s3⟩ := hR.tree id2 _ ht2
      obtain ⟨ad2, cap2, hcs2, _⟩ := (show Rep (md I C.B) w (.osl σ2) (rt id2) ys (fp id2) from s1)
      have hvy' : a.eval y = .slice ad2 ys.length cap2 := by rw [hvy]; show (rt id2).headD undef = _; rw [hcs2]; rfl
      have s1' : Rep (md I C.B) w (.osl σ2) [.slice ad2 ys.length cap2] ys (fp id2) := by rw [← hcs2]; exact s1
      obtain ⟨_, _, fys, he, hf1, hf2, _⟩ := Elems.osl s1'
      exact OK1.appTree ho hd hdn hR hnext hT hl hsz (S := [id, id2, d]) (by simp) hvx' r1' r2 (fun b hb => ⟨id, by simp, _, ht, hb⟩) hvy' he (hf2 s2) (fun b hb => ⟨id2, by simp, _, ht2, hf1 b hb⟩)
        (fun b hb hb' => hR.dis id id2 _ _ ht ht2 hne b hb (hf1 b hb')) hlim h
    · obtain ⟨ys, hys, hlim, h⟩ := YRes.to_K h
      obtain ⟨yd, c, fys, hvy, he, hf⟩ := ysF_ok hR hys
      exact OK1.appTree ho hd hdn hR hnext hT hl hsz (S := [id, d]) (by simp) hvx' r1' r2 (fun b hb => ⟨id, by simp, _, ht, hb⟩) hvy he (by rw [hf]; simp) (by rw [hf]; simp) (by rw [hf]; simp) hlim h
  · rename_i id p hpn ex
    split at h
    case h_2 => exact h.elim
    rename_i τ z ht hdf
    split at h
    case h_2 => exact h.elim
    rename_i σ hty
    cases hb : (sameLay u σ && Nat.ble σ.size 1300 && σ.nb) with
    | false => rw [hb] at h; exact h.elim
    | true =>
    rw [hb] at h
    simp only [Bool.and_eq_true] at hb
    obtain ⟨⟨hl, hsz⟩, hnb⟩ := hb
    have hsz := Nat.le_of_ble_eq_true hsz
    simp only [cond_true] at h
    split at h
    · rename_i ys hys
      obtain ⟨xs, ⟨hg, hlim⟩, h⟩ := h
      exact append_place ho hd hdn hR hnext hT hl hsz hnb ex ht hdf hg (ysF_ok hR (by rw [hys]; exact rfl)) hlim h
    · rename_i α φ f hys
      obtain ⟨⟨xs, q⟩, ⟨hg, hφ, hlim⟩, h⟩ := h
      exact append_place ho hd hdn hR hnext hT hl hsz hnb ex ht hdf hg (ysF_ok hR (by rw [hys]; exact ⟨q, hφ, rfl⟩)) hlim h
    · exact h.elim
  · rename_i id lo hi ex
    split at h
    case h_2 => exact h.elim
    rename_i σ xs ht
    cases hb : (sameLay u σ && Nat.ble σ.size 1300) with
    | false => rw [hb] at h; exact h.elim
    | true =>
    rw [hb] at h
    simp only [Bool.and_eq_true] at hb
    obtain ⟨hl, hsz⟩ := hb
    have hsz := Nat.le_of_ble_eq_true hsz
    simp only [cond_true] at h
    rw [ex] at hx
    obtain ⟨r1, r2, r3⟩ := hR.tree id _ ht
    generalize hvx : a.eval x = vx at hx
    cases hx with | view ht' hn l1 l2 l3 =>
    rename_i b off len cap
    rw [ht] at ht'; cases ht'
    obtain ⟨e1, _, e3⟩ := Nav.nil_iff.1 hn
    cases e1
    obtain ⟨ys, hys, hlim, h⟩ := YRes.to_K h
    obtain ⟨yd, c, fys, hvy, he, hf⟩ := ysF_ok hR hys
    rw [e3] at r1
    obtain ⟨f1, q1, q2, q3⟩ := viewRep (show Rep (md I C.B) w (.osl σ) _ xs (fp id) from r1) r2 l1 l2 l3
    have hlen : ((xs.take hi).drop lo).length = hi - lo := by
      obtain ⟨hh, _⟩ := Elems.osl (show Rep (md I C.B) w (.osl σ) _ xs (fp id) from r1)
      simp; omega
    exact OK1.appTree ho hd hdn hR hnext hT hl hsz (S := [id, d]) (by simp) hvx q1 q2 (fun b hb => ⟨id, by simp, _, ht, q3 b hb⟩) hvy he (by rw [hf]; simp) (by rw [hf]; simp) (by rw [hf]; simp) hlim h
  · rename_i ex
    split at h
    case h_2 => exact h.elim
    rename_i σ han
    cases hb : (sameLay u σ && Nat.ble σ.size 1300) with
    | false => rw [hb] at h; exact h.elim
    | true =>
    rw [hb] at h
    simp only [Bool.and_eq_true] at hb
    obtain ⟨hl, hsz⟩ := hb
    have hsz := Nat.le_of_ble_eq_true hsz
    simp only [cond_true] at h
    rw [ex] at hx
    generalize hvx : a.eval x = vx at hx
    cases hx
    obtain ⟨ys, hys, hlim, h⟩ := YRes.to_K h
    obtain ⟨yd, c, fys, hvy, he, hf⟩ := ysF_ok hR hys
    exact OK1.appTree ho hd hdn hR hnext hT hl hsz (S := [d]) (by simp) (xs := []) (f1 := []) hvx ⟨none, 0, rfl, .inl ⟨rfl, rfl, rfl, rfl⟩⟩ (by simp) (by simp) hvy he (by rw [hf]; simp) (by rw [hf]; simp) (by simp) (by simpa using hlim) (by simpa using h)
  · exact h.elim

def Res.toS (r : Res) (f : AV → List (Nat × Tree) → St) : SRes :=
  match r with
  | .tot av new => .tot (f av new)
  | .part α φ g => .part α φ (fun q => f (g q).1 (g q).2)
  | .bad => .bad

theorem Res.toS_K {r : Res} {f : AV → List (Nat × Tree) → St} (h : (r.toS f).K Q) : r.K (fun av new => Q (f av new)) := by
  cases r with
  | tot av new => exact h
  | part α φ g => exact h
  | bad => exact h

/-- One operation (no call of a Go function). -/
def stepF (tt : List (TypeId × Ty)) (an : List (Nat × Ty)) (n : Nat) (pin : List Nat) (st : St) (o : Oper) : SRes :=
  match o.dst with
  | none => match o.op with
    | .store T x v => stoF tt st T (opA st.g x) (opA st.g v)
    | _ => .bad
  | some d => bif Nat.blt d n && !(memN d pin) then
      match o.op with
      | .assign x => match opA st.g x, lk an d with
        | .val τ y, _ => .tot ⟨(d, .val τ y) :: st.g, st.h⟩
        | .cv v, none => .tot ⟨(d, .cv v) :: st.g, st.h⟩
        | v, _ => asgF an st d v
      | .call c => match c.callee, c.args.toList, c.argTypes.toList with
        | .builtin .append, [x, y], [T, T'] => bif Nat.beq T T' then appF tt an st d T (opA st.g x) (opA st.g y) else .bad
        | _, _, _ => (evalF tt an st.h (opA st.g) d o.op).toS fun av new => ⟨(d, av) :: st.g, new ++ st.h⟩
      | op => (evalF tt an st.h (opA st.g) d op).toS fun av new => ⟨(d, av) :: st.g, new ++ st.h⟩
    else .bad

theorem OK1.step {an : List (Nat × Ty)} (h : (stepF E.tt an C.n C.pin st o).K Q) : OK1 E C o st Q := by
  unfold stepF at h
  split at h
  · rename_i hd
    split at h
    · rename_i T x v ho
      exact stoF_sound ho hd h
    · exact h.elim
  · rename_i d hd
    cases hb : (Nat.blt d C.n && !(memN d C.pin)) with
    | false => rw [hb] at h; exact h.elim
    | true =>
    rw [hb] at h
    simp only [Bool.and_eq_true] at hb
    have hdn : C.ok d := ⟨Nat.le_of_ble_eq_true hb.1, fun hm => by have h2 := hb.2; rw [memN_iff.2 hm] at h2; cases h2⟩
    simp only [cond_true] at h
    have ev : (evalF E.tt an st.h (opA st.g) d o.op).K (fun av new => Q ⟨(d, av) :: st.g, new ++ st.h⟩) → OK1 E C o st Q := OK1.eval hd hdn
    split at h
    · rename_i x ho
      split at h
      · rename_i τ y ex
        refine ev ?_
        rw [ho]
        simp only [evalF, ex, isVal, cond_true]
        exact h
      · rename_i v ex _
        refine ev ?_
        rw [ho]
        simp only [evalF, ex, isVal, cond_true]
        exact h
      · exact OK1.asg ho hd hdn h
    · rename_i c ho
      obtain ⟨callee, args, argTypes⟩ := c
      simp only at h
      split at h
      · rename_i x y T T' e1 e2
        cases hbe : Nat.beq T T' with
        | false => rw [hbe] at h; exact h.elim
        | true =>
        rw [hbe] at h
        obtain rfl := Nat.eq_of_beq_eq_true hbe
        have e1' : args = #[x, y] := by cases args; simp_all
        have e2' : argTypes = #[T, T] := by cases argTypes; simp_all
        subst e1'; subst e2'
        exact OK1.app ho hd hdn h
      · exact ev (Res.toS_K h)
    · exact ev (Res.toS_K h)
end
end Go.Fw
