/-
  The framework, part 15: append as an operation.
-/
import Derived.Test.YtlalecmgnaoiiaaFw14
namespace Go.Fw

inductive YRes (σ : Ty) where
  | tot (ys : List σ.den)
  | part (α : Type) (φ : α → Prop) (f : α → List σ.den)
  | bad

/-- The elements that are appended, where they are values. -/
def ysF (h : List (Nat × Tree)) (σ : Ty) (y : AV) : YRes σ :=
  match y with
  | .val (.slc _ t) ys => if e : t = σ then .tot (e ▸ ys) else .bad
  | .cv (.slice none 0 0) => .tot []
  | .ref id p => match lk h id with
    | some ⟨τ, x⟩ => bif σ.pure then .part (List σ.den) (fun ys => GetP τ x p (.osl σ) ys) (fun ys => ys) else .bad
    | none => .bad
  | .view id p lo hi => match lk h id with
    | some ⟨τ, x⟩ => bif σ.pure then .part (List σ.den) (fun ys => GetP τ x p (.osl σ) ys) (fun ys => (ys.take hi).drop lo) else .bad
    | none => .bad
  | _ => .bad

def YRes.to {σ : Ty} (r : YRes σ) (g : Nat → Prop) (f : List σ.den → St) : SRes :=
  match r with
  | .tot ys => .part Unit (fun _ => g ys.length) (fun _ => f ys)
  | .part α φ h => .part α (fun q => φ q ∧ g (h q).length) (fun q => f (h q))
  | .bad => .bad

def appF (tt : List (TypeId × Ty)) (an : List (Nat × Ty)) (st : St) (d : Nat) (T : TypeId) (x y : AV) : SRes :=
  match isSlcT tt T with
  | none => .bad
  | some u => match x with
    | .ref id [] => match lk st.h id with
      | some ⟨.osl σ, xs⟩ => bif sameLay u σ && Nat.ble σ.size 1300 then
          match σ.pure, y with
          | false, .ref id2 [] => match lk st.h id2 with
            | some ⟨.osl σ2, ys⟩ => if e : σ2 = σ then (bif Nat.beq id id2 then .bad else .part Unit (fun _ => xs.length + ys.length ≤ lim) (fun _ => ⟨(d, .ref d []) :: kill [id, id2, d] [] st.g, (d, ⟨.osl σ, xs ++ (e ▸ ys)⟩) :: del [id, id2, d] st.h⟩)) else .bad
            | _ => .bad
          | _, y => (ysF st.h σ y).to (fun n => xs.length + n ≤ lim) (fun ys => ⟨(d, .ref d []) :: kill [id, d] [] st.g, (d, ⟨.osl σ, xs ++ ys⟩) :: del [id, d] st.h⟩)
        else .bad
      | _ => .bad
    | .ref id p => match lk st.h id, lk st.h d with
      | some ⟨τ, x⟩, none => match tyAt τ p with
        | some (.osl σ) => bif sameLay u σ && Nat.ble σ.size 1300 && σ.nb then
            match ysF st.h σ y with
            | .tot ys => .part (List σ.den) (fun xs => GetP τ x p (.osl σ) xs ∧ xs.length + ys.length ≤ lim) (fun _ => ⟨(d, .app id p σ ys [d]) :: kill [id] [(id, [])] st.g, (d, ⟨.blk, ()⟩) :: (id, ⟨τ, x⟩) :: del [id] st.h⟩)
            | .part α φ f => .part (List σ.den × α) (fun q => GetP τ x p (.osl σ) q.1 ∧ φ q.2 ∧ q.1.length + (f q.2).length ≤ lim) (fun q => ⟨(d, .app id p σ (f q.2) [d]) :: kill [id] [(id, [])] st.g, (d, ⟨.blk, ()⟩) :: (id, ⟨τ, x⟩) :: del [id] st.h⟩)
            | .bad => .bad
          else .bad
        | _ => .bad
      | _, _ => .bad
    | .view id [] lo hi => match lk st.h id with
      | some ⟨.osl σ, xs⟩ => bif sameLay u σ && Nat.ble σ.size 1300 then
          (ysF st.h σ y).to (fun n => ((xs.take hi).drop lo).length + n ≤ lim) (fun ys => ⟨(d, .ref d []) :: kill [id, d] [] st.g, (d, ⟨.osl σ, (xs.take hi).drop lo ++ ys⟩) :: del [id, d] st.h⟩)
        else .bad
      | _ => .bad
    | .cv (.slice none 0 0) => match lk an d with
      | some (.osl σ) => bif sameLay u σ && Nat.ble σ.size 1300 then
          (ysF st.h σ y).to (fun n => n ≤ lim) (fun ys => ⟨(d, .ref d []) :: kill [d] [] st.g, (d, ⟨.osl σ, ys⟩) :: del [d] st.h⟩)
        else .bad
      | _ => .bad
    | _ => .bad

section
variable {E : Env} {C : Ctx} {st : St} {a : Act} {tm : Array Value} {w : World} {I : Nat → Prop} {rt : Nat → List Value} {fp : Nat → List Nat} {o : Oper} {Q : St → Prop}

/-- The second operand on the machine. -/
def YOk (I : Nat → Prop) (B : Nat → Prop) (w : World) (σ : Ty) (v : Value) (ys : List σ.den) : Prop :=
  ∃ yd c fys, v = .slice yd ys.length c ∧ Elems (md I B) w σ yd ys fys ∧ fys.flatten = []

theorem flatten_nil {l : List (List Nat)} (h : ∀ f ∈ l, f = []) : l.flatten = [] := by
  induction l with
  | nil => rfl
  | cons x r ih => rw [List.flatten_cons, h x (by simp), ih (fun f hf => h f (List.mem_cons_of_mem _ hf))]; rfl

theorem Elems.pure {M : Md → Nat → Prop} {σ : Ty} {ad : Option Addr} {ys : List σ.den} {fys : List (List Nat)} (hp : σ.pure = true) (h : Elems M w σ ad ys fys) : fys.flatten = [] := by
  refine flatten_nil (fun f hf => ?_)
  obtain ⟨hl, h⟩ := h
  obtain ⟨i, hi, rfl⟩ := List.mem_iff_getElem.1 hf
  rcases h with rfl | ⟨b, o, _, h⟩
  · simp only [List.length_nil] at hl; omega
  · have hi' : i < ys.length := by omega
    obtain ⟨ds, _, _, hr⟩ := h i ys[i] fys[i] (by simp) (by simp)
    exact hr.pure hp

def YRes.holds {σ : Ty} (r : YRes σ) (ys : List σ.den) : Prop :=
  match r with
  | .tot zs => ys = zs
  | .part α φ f => ∃ q : α, φ q ∧ ys = f q
  | .bad => False

theorem YRes.to_K {σ : Ty} {r : YRes σ} {g : Nat → Prop} {f : List σ.den → St} (h : (r.to g f).K Q) : ∃ ys, r.holds ys ∧ g ys.length ∧ Q (f ys) := by
  unfold YRes.to at h
  cases r with
  | tot ys => obtain ⟨_, h1, h2⟩ := h; exact ⟨ys, rfl, h1, h2⟩
  | part α φ k => obtain ⟨q, ⟨h1, h2⟩, h3⟩ := h; exact ⟨k q, ⟨q, h1, rfl⟩, h2, h3⟩
  | bad => exact h.elim

theorem ysF_ok (hR : RelAt C st a.tmps w I rt fp) {σ : Ty} {y : Operand} {ys : List σ.den} (h : (ysF st.h σ (opA st.g y)).holds ys) : YOk I C.B w σ (a.eval y) ys := by
  have hy := hR.opA y
  unfold ysF at h
  generalize hv : a.eval y = v at hy
  split at h
  · rename_i m t zs ey
    split at h
    case isFalse => exact h.elim
    rename_i e
    subst e
    obtain rfl : ys = zs := h
    rw [ey] at hy
    cases hy with | val r =>
    have r0 := r
    obtain ⟨_, ad, cap, rfl, _⟩ := r0
    obtain ⟨_, he⟩ := Elems.slc r
    exact ⟨ad, cap, _, rfl, he, by simp⟩
  · rename_i ey
    obtain rfl : ys = [] := h
    rw [ey] at hy
    cases hy
    exact ⟨none, 0, [], rfl, ⟨rfl, .inl rfl⟩, rfl⟩
  · rename_i id p ey
    split at h
    case h_2 => exact h.elim
    rename_i τ x ht
    cases hp : σ.pure with
    | false => rw [hp] at h; exact h.elim
    | true =>
      rw [hp] at h
      obtain ⟨zs, hg, rfl⟩ := h
      rw [ey] at hy
      cases hy with | ref ht' hn =>
      rw [ht] at ht'; cases ht'
      obtain ⟨rfl, f, hr, _⟩ := hR.getP ht hg hn
      have hr0 := hr
      obtain ⟨ad, cap, rfl, _⟩ := hr0
      obtain ⟨_, _, fys, he, _⟩ := Elems.osl hr
      exact ⟨ad, cap, fys, rfl, he, he.pure hp⟩
  · rename_i id p lo hi ey
    split at h
    case h_2 => exact h.elim
    rename_i τ x ht
    cases hp : σ.pure with
    | false => rw [hp] at h; exact h.elim
    | true =>
      rw [hp] at h
      obtain ⟨zs, hg, rfl⟩ := h
      rw [ey] at hy
      cases hy with | view ht' hn l1 l2 l3 =>
      rename_i b off len cap
      rw [ht] at ht'; cases ht'
      obtain ⟨e, f, hr, _⟩ := hR.getP ht hg hn
      cases e
      obtain ⟨e1, _, fys, he, _⟩ := Elems.osl hr
      have hlen : ((zs.take hi).drop lo).length = hi - lo := by simp; omega
      show YOk I C.B w σ _ ((zs.take hi).drop lo)
      refine ⟨_, cap - lo, (fys.take hi).drop lo, by rw [hlen], ⟨by simp [he.1], ?_⟩, ?_⟩
      · obtain ⟨hl, he⟩ := he
        by_cases hlh : hi = lo
        · left; apply List.eq_nil_of_length_eq_zero; omega
        · right
          rcases he with rfl | ⟨b', o', e, he⟩
          · simp at hlen; omega
          · cases e
            refine ⟨b, _, rfl, fun i y f hy hf => ?_⟩
            have hil : i < hi - lo := by rw [← hlen]; exact (List.getElem?_eq_some_iff.1 hy).1
            rw [List.getElem?_drop, List.getElem?_take_of_lt (by omega)] at hy hf
            obtain ⟨ds, d1, d2, d3⟩ := he (lo + i) y f hy hf
            refine ⟨ds, d1, ?_, d3⟩
            rw [if_neg (by omega)]
            rwa [show off + lo * σ.size + i * σ.size = off + (lo + i) * σ.size by rw [Nat.add_mul]; omega]
      · have := he.pure hp
        have hs := flatten_mid fys lo hi
        rw [this] at hs
        exact List.sublist_nil.1 hs
  · exact h.elim

/-- A part of a slice that is owned, as a slice of its own. -/
theorem viewRep {M : Md → Nat → Prop} {t : Ty} {b off len cap lo hi : Nat} {xs : List t.den} {f : List Nat} (h : Rep M w (.osl t) [.slice (some ⟨b, off, none⟩) len cap] xs f) (hnd : f.Nodup) (l1 : lo ≤ hi) (l2 : hi ≤ len) (l3 : len ≤ cap) :
    ∃ f1, Rep M w (.osl t) [.slice (some ⟨b, if cap = lo then off else off + lo * t.size, none⟩) (hi - lo) (cap - lo)] ((xs.take hi).drop lo) f1 ∧ f1.Nodup ∧ ∀ c ∈ f1, c ∈ f := by
  obtain ⟨ad, cap', hh, hr⟩ := h
  simp only [List.cons.injEq, Value.slice.injEq, and_true] at hh
  obtain ⟨rfl, rfl, rfl⟩ := hh
  rcases hr with ⟨h0, _⟩ | ⟨b', off', fps, h0, rfl, q1, q2, q3, q4⟩
  · cases h0
  cases h0
  have hlen : ((xs.take hi).drop lo).length = hi - lo := by simp; omega
  have hsub : ((fps.take hi).drop lo).flatten.Sublist fps.flatten := flatten_mid _ _ _
  refine ⟨b :: ((fps.take hi).drop lo).flatten, ⟨some ⟨b, if cap = lo then off else off + lo * t.size, none⟩, cap - lo, by rw [hlen], .inr ⟨b, _, (fps.take hi).drop lo, rfl, rfl, by simp [q1], by rw [hlen]; omega, ?_, ?_⟩⟩, ?_, ?_⟩
  · intro j h1 h2
    by_cases hc : cap = lo
    · subst hc; simp at h1 h2; omega
    · rw [if_neg hc] at h1 h2
      have : lo * t.size + (cap - lo) * t.size = cap * t.size := by rw [← Nat.add_mul]; congr 1; omega
      exact q3 j (by omega) (by omega)
  · intro i y f hy hf
    have hil : i < hi - lo := by rw [← hlen]; exact (List.getElem?_eq_some_iff.1 hy).1
    rw [List.getElem?_drop, List.getElem?_take_of_lt (by omega)] at hy hf
    obtain ⟨ds, d1, d2, d3⟩ := q4 (lo + i) y f hy hf
    refine ⟨ds, d1, ?_, d3⟩
    rw [if_neg (by omega)]
    rwa [show off + lo * t.size + i * t.size = off + (lo + i) * t.size by rw [Nat.add_mul]; omega]
  · rw [List.nodup_cons] at hnd ⊢
    exact ⟨fun hm => hnd.1 (hsub.subset hm), hnd.2.sublist hsub⟩
  · intro c hc
    rcases List.mem_cons.1 hc with rfl | hc
    · simp
    · exact List.mem_cons_of_mem _ (hsub.subset hc)

theorem app_run {T : TypeId} {x y : Operand} (ho : o.op = .call { callee := .builtin .append, args := #[x, y], argTypes := #[T, T] }) {v' : Value} {w' : World}
    (hr : (Builtin.append_ #[T, T] o.type #[a.eval x, a.eval y]).run E.P w = .ok v' w') : (execOp a.eval o).run E.P w = .ok (.value v') w' := by
  simp only [execOp, ho, resolve, invoke, builtin, Sem.run_bind, Sem.run_pure, Result.andThen_ok, List.map_toArray, List.map_cons, List.map_nil, hr]

/-- Append onto a slice that is a tree of its own, or becomes one. -/
theorem OK1.appTree {T : TypeId} {x y : Operand} {d : Nat} (ho : o.op = .call { callee := .builtin .append, args := #[x, y], argTypes := #[T, T] }) (hd : o.dst = some d) (hdn : C.ok d) (hR : RelAt C st a.tmps w I rt fp)
    {next : Act → World → Prop} {X : Exit → Act → World → Prop} (hnext : ∀ st' a' w', Q st' → a'.defers = a.defers → Rel C st' a'.tmps w' → next a' w')
    {u σ : Ty} (hT : isSlcT E.tt T = some u) (hl : sameLay u σ = true) (hsz : σ.size ≤ 1300) {S : List Nat} (hdS : d ∈ S) {ad : Option Addr} {n cap : Nat} {xs ys : List σ.den} {f1 : List Nat} {fys : List (List Nat)} {yd : Option Addr} {c : Nat}
    (hx : a.eval x = .slice ad n cap) (hrx : Rep (md I C.B) w (.osl σ) [.slice ad n cap] xs f1) (hf1 : f1.Nodup) (hf1S : ∀ b ∈ f1, ∃ i ∈ S, ∃ t, lk st.h i = some t ∧ b ∈ fp i)
    (hy : a.eval y = .slice yd ys.length c) (hey : Elems (md I C.B) w σ yd ys fys) (hfy : fys.flatten.Nodup) (hfyS : ∀ b ∈ fys.flatten, ∃ i ∈ S, ∃ t, lk st.h i = some t ∧ b ∈ fp i) (hdis : ∀ b ∈ f1, b ∉ fys.flatten) (hlim : xs.length + ys.length ≤ lim)
    (hq : Q ⟨(d, .ref d []) :: kill S [] st.g, (d, ⟨.osl σ, xs ++ ys⟩) :: del S st.h⟩) : o.wp E.P a w next X := by
  obtain ⟨i, SS, h1, h5, h6⟩ := isSlcT.ok hT
  have h6' := h6.lay hl
  obtain ⟨ie, _, q5, _⟩ := h6'.info
  have hlt : ∀ i t, lk st.h i = some t → ∀ b ∈ fp i, b < w.heap.size ∧ ∀ m, ¬ md I C.B m b := fun i t ht b hb => ⟨((hR.tree i t ht).2.2 b hb).2.2.1, hR.notM ht b hb⟩
  obtain ⟨v', w', f2, r1, r2, _, r4, r5, r6, r7, r8, r9, r10, r11, _⟩ := append_core (P := E.P) (ty := o.type) h5 h6' q5.info hsz hrx (c := c) hey hf1 (fun b hb => by obtain ⟨i, _, t, ht, hbi⟩ := hf1S b hb; exact (hlt i t ht b hbi).2) hfy hdis
    (fun m b hm => hR.ib b (md_or hm)) (fun b hb => by obtain ⟨i, _, t, ht, hbi⟩ := hf1S b hb; exact (hlt i t ht b hbi).1) (fun b hb => by obtain ⟨i, _, t, ht, hbi⟩ := hfyS b hb; exact (hlt i t ht b hbi).1) hlim
  have hrun : (execOp a.eval o).run E.P w = .ok (.value v') w' := app_run (E := E) ho (by rw [hx, hy]; exact r1)
  have hcov : ∀ b ∈ f2, (∃ i ∈ S, ∃ t, lk st.h i = some t ∧ b ∈ fp i) ∨ (w.heap.size ≤ b ∧ b < w'.heap.size) := fun b hb => by
    rcases r5 b hb with h | h | h
    · exact .inl (hf1S b h)
    · exact .inl (hfyS b h)
    · exact .inr h
  have hu := hR.upd (UpdOk.one (st := st) (C := C) (rt := rt) (w' := w') (I' := I) (S := S) (d := d) (t := ⟨.osl σ, xs ++ ys⟩) (cs := [v']) (f := f2) (.inl hdS) r6 r7 r8 r9
    (fun b hb hS => r10 b hb (fun hf => by obtain ⟨i, hi, t, ht, hbi⟩ := hf1S b hf; exact hS i hi t ht hbi)) (fun _ h => h) (fun _ h => .inl h) r2 r4 (fun b hb => by
      rcases hcov b hb with ⟨i, hi, t, ht, hbi⟩ | ⟨g1, g2⟩
      · obtain ⟨q1, q2, q3, q4⟩ := (hR.tree i t ht).2.2 b hbi
        exact ⟨q1, by omega, .inr ⟨i, hi, t, ht, hbi⟩⟩
      · exact ⟨fun hI => by have := hR.ib b (.inl hI); omega, g2, .inl g1⟩))
  unfold Oper.wp
  rw [hrun]
  show next (a.put o.dst v') w'
  rw [hd]
  refine hnext _ _ _ hq rfl ⟨I, _, _, hu.put hdn (av := .ref d []) ?_⟩
  have : v' = regV (.osl σ) [v'] := rfl
  rw [this]
  refine .ref (t := ⟨.osl σ, xs ++ ys⟩) (loc := none) (by rw [lk_append, lk_cons, if_pos rfl]; rfl) ?_
  rw [mixv_one]
  exact Nav.here
end
end Go.Fw
