/-
  The framework, part 25: from the interpreter to a function; the check of types.
-/
import Derived.Test.YtlalecmgnaoiiaaFw30
namespace Go.Fw

def argGP : Nat → (ps : List PM) → prodP ps → List (Nat × AV)
  | _, [], _ => []
  | k, .v τ :: l, a => (k, .val τ a.1) :: argGP (k + 1) l a.2
  | k, .m _ :: l, a => (k, .ref k []) :: argGP (k + 1) l a.2
  | k, .o _ :: l, a => (k, .ref k []) :: argGP (k + 1) l a.2
def argTP : Nat → (ps : List PM) → prodP ps → List (Nat × Tree)
  | _, [], _ => []
  | k, .v _ :: l, a => argTP (k + 1) l a.2
  | k, .m τ :: l, a => (k, ⟨τ, a.1⟩) :: argTP (k + 1) l a.2
  | k, .o τ :: l, a => (k, ⟨τ, a.1⟩) :: argTP (k + 1) l a.2
def argPP : Nat → List PM → List Nat
  | _, [] => []
  | k, .m _ :: l => k :: argPP (k + 1) l
  | k, .v _ :: l => argPP (k + 1) l
  | k, .o _ :: l => argPP (k + 1) l

theorem argGP_eq {r : Type} : ∀ {k : Nat} {ps : List PM} {a : prodP ps} {b : outP ps r}, argG k (mkA ps a b) = argGP k ps a ∧ argT k (mkA ps a b) = argTP k ps a ∧ argPin k (mkA ps a b) = argPP k ps ∧ (mkA ps a b).length = ps.length
  | k, [], a, b => ⟨rfl, rfl, rfl, rfl⟩
  | k, p :: l, a, b => by
      have ih := fun a b => argGP_eq (r := r) (k := k + 1) (ps := l) (a := a) (b := b)
      cases p
      · obtain ⟨h1, h2, h3, h4⟩ := ih a.2 b
        simp only [mkA, argG, argT, argPin, argGP, argTP, argPP, List.length_cons, h1, h2, h3, h4, and_self]
      · obtain ⟨h1, h2, h3, h4⟩ := ih a.2 b.2
        simp only [mkA, argG, argT, argPin, argGP, argTP, argPP, List.length_cons, h1, h2, h3, h4, and_self]
      · obtain ⟨h1, h2, h3, h4⟩ := ih a.2 b
        simp only [mkA, argG, argT, argPin, argGP, argTP, argPP, List.length_cons, h1, h2, h3, h4, and_self]

/-- One result of a state. -/
def resF1 (tt : List (TypeId × Ty)) (st : St) (τ : Ty) : ResultVar → Option (τ.den × List Nat)
  | .tmp r => match gt st.g r with
    | .val _ x => (castT τ x).bind fun y => some (y, [])
    | .cv v => bif cvOk τ v then (cvC τ v.cells.toList).bind fun y => some (y, []) else none
    | .ref id p => match lk st.h id with
      | some t => (getF t.1 t.2 p τ).bind fun y => some (y, [id])
      | none => none
    | _ => none
  | .cell a T => match lk tt T with
    | some υ => bif sameLay υ τ then match gt st.g a with
      | .ref id p => match lk st.h id with
        | some t => match tyAt t.1 p with
          | some (.optr _) => (getF t.1 t.2 (p ++ [.deref]) τ).bind fun y => some (y, [id])
          | _ => none
        | none => none
      | _ => none else none
    | none => none

/-- The results of a state. -/
def resF (tt : List (TypeId × Ty)) (st : St) : List ResultVar → (ts : List Ty) → Option (prodT ts × List Nat)
  | [], [] => some ((), [])
  | r :: rs, τ :: ts => bif τ.nob then (resF1 tt st τ r).bind fun y => (resF tt st rs ts).map fun q => ((y.1, q.1), y.2 ++ q.2) else none
  | _, _ => none

theorem resF1q_ok {E : Env} {st : St} {τ : Ty} {r : ResultVar} {q : τ.den × List Nat} (h : resF1 E.tt st τ r = some q) : ResOne E.P st ⟨τ, q.1⟩ r q.2 := by
  cases r with
  | tmp r =>
    simp only [resF1] at h
    simp only [ResOne]
    split at h
    · rename_i τ' x hx
      obtain ⟨y, hy, h⟩ := Option.bind_eq_some_iff.1 h
      cases h
      rw [hx]
      exact ⟨castT_some hy, rfl⟩
    · rename_i v hx
      cases hc : cvOk τ v with
      | false => rw [hc] at h; cases h
      | true =>
      rw [hc] at h
      obtain ⟨y, hy, h⟩ := Option.bind_eq_some_iff.1 h
      cases h
      rw [hx]
      exact ⟨hy, cvOk.ok hc, rfl⟩
    · rename_i id p hx
      split at h
      case h_2 => cases h
      rename_i t ht
      obtain ⟨y, hy, h⟩ := Option.bind_eq_some_iff.1 h
      cases h
      rw [hx]
      exact ⟨rfl, t, ht, getF_ok hy⟩
    · cases h
  | cell a T =>
    simp only [resF1] at h
    simp only [ResOne]
    split at h
    case h_2 => cases h
    rename_i υ hT
    cases hl : sameLay υ τ with
    | false => rw [hl] at h; cases h
    | true =>
    rw [hl] at h
    refine ⟨(E.ok T υ hT).lay hl, ?_⟩
    simp only [cond_true] at h
    split at h
    case h_2 => cases h
    rename_i id p hx
    split at h
    case h_2 => cases h
    rename_i t ht
    split at h
    case h_2 => cases h
    rename_i τ1 hty
    obtain ⟨y, hy, h⟩ := Option.bind_eq_some_iff.1 h
    cases h
    rw [hx]
    exact ⟨rfl, t, τ1, ht, hty, getF_ok hy⟩

theorem resF_ok {E : Env} {st : St} : ∀ {rs : List ResultVar} {ts : List Ty} {q : prodT ts × List Nat}, resF E.tt st rs ts = some q → ResAt E.P st rs (mkR ts q.1) q.2
  | [], [], q, h => by cases h; rfl
  | [], _ :: _, q, h => by cases h
  | _ :: _, [], q, h => by cases h
  | r :: rs, τ :: ts, q, h => by
      simp only [resF] at h
      cases hn : τ.nob with
      | false => rw [hn] at h; cases h
      | true =>
      rw [hn] at h
      simp only [cond_true] at h
      obtain ⟨y, hy, h⟩ := Option.bind_eq_some_iff.1 h
      obtain ⟨q', hq, rfl⟩ := Option.map_eq_some_iff.1 h
      exact ⟨hn, y.2, q'.2, rfl, resF1q_ok hy, resF_ok hq⟩

/-- What was handed over for writing, at the end. -/
def mutF (st : St) {r : Type} (o : Option r) : Nat → (ps : List PM) → Option (outP ps r)
  | _, [] => o
  | k, .v _ :: l => mutF st o (k + 1) l
  | k, .o _ :: l => mutF st o (k + 1) l
  | k, .m τ :: l => bif avEq (.ref k []) (gt st.g k) && (τ.nob && vtB τ) then match lk st.h k with
      | some t => match castT τ t.2 with
        | some y => (mutF st o (k + 1) l).map fun q => (y, q)
        | none => none
      | none => none else none

theorem mutF_ok {st : St} {r : Type} {o : Option r} : ∀ {k : Nat} {ps : List PM} {a : prodP ps} {b : outP ps r}, mutF st o k ps = some b → MutAt st k (mkA ps a b) ∧ o = some (outR ps b)
  | k, [], a, b, h => ⟨trivial, h⟩
  | k, .v _ :: l, a, b, h => mutF_ok (ps := l) h
  | k, .o _ :: l, a, b, h => mutF_ok (ps := l) h
  | k, .m τ :: l, a, b, h => by
      simp only [mutF] at h
      cases hb : (avEq (.ref k []) (gt st.g k) && (τ.nob && vtB τ)) with
      | false => rw [hb] at h; cases h
      | true =>
      rw [hb] at h
      simp only [Bool.and_eq_true] at hb
      simp only [cond_true] at h
      split at h
      case h_2 => cases h
      rename_i t ht
      split at h
      case h_2 => cases h
      rename_i y hy
      obtain ⟨q, hq, rfl⟩ := Option.map_eq_some_iff.1 h
      obtain ⟨h1, h2⟩ := mutF_ok (a := a.2) hq
      refine ⟨⟨⟨(avEq.ok hb.1).symm, ?_, hb.2.1, hb.2.2⟩, h1⟩, h2⟩
      rw [ht]; exact congrArg some (castT_some hy)

def finF (tt : List (TypeId × Ty)) (ps : List PM) (rs : List ResultVar) (ts : List Ty) (st : St) : Option (outP ps (prodT ts)) :=
  match resF tt st rs ts with
  | some q => bif nodupB (argPP 0 ps ++ q.2) then mutF st (some q.1) 0 ps else none
  | none => none

theorem finF_ok {E : Env} {ps : List PM} {rs : List ResultVar} {ts : List Ty} {st : St} {a : prodP ps} {b : outP ps (prodT ts)} {e : Exit} (he : e = .normal ∨ e = .ret) (h : finF E.tt ps rs ts st = some b) : FnPost E.P (mkA ps a b) rs (mkR ts (outR ps b)) e st := by
  unfold finF at h
  split at h
  case h_2 => cases h
  rename_i q hq
  cases hb : nodupB (argPP 0 ps ++ q.2) with
  | false => rw [hb] at h; cases h
  | true =>
  rw [hb] at h
  simp only [cond_true] at h
  obtain ⟨h1, h2⟩ := mutF_ok (a := a) h
  refine ⟨he, q.2, ?_, ?_, h1⟩
  · rw [← Option.some.inj h2]; exact resF_ok hq
  · rw [(argGP_eq (k := 0) (ps := ps) (a := a) (b := b)).2.2.1]; exact hb

def finK (tt : List (TypeId × Ty)) (ps : List PM) (rs : List ResultVar) (ts : List Ty) : Exit → St → Option (outP ps (prodT ts))
  | .normal, s => finF tt ps rs ts s
  | .ret, s => finF tt ps rs ts s
  | _, _ => none

noncomputable def iFun (ic : IC) (an : Ann) (c : Code) (ps : List PM) (rs : List ResultVar) (ts : List Ty) (a : prodP ps) : Option (outP ps (prodT ts)) :=
  iC ic an c ⟨argGP 0 ps a, argTP 0 ps a⟩ _ (finK ic.tt ps rs ts)

section
variable {E : Env}

theorem OkFun.of {f : Nat} {fn : Func} {ps : List PM} {rs : List ResultVar} {ts : List Ty} {sem : prodP ps → Option (outP ps (prodT ts))} (tbl : List (Nat × Fun)) (own : List (Nat × Ty)) (fz : List (Nat × Nat)) (an : Ann)
    (hf : E.P.funcs[f]? = some fn) (hb : fn.body.isSome = true) (hres : fn.results = rs.toArray) (hn : Nat.ble ps.length fn.ntmps = true)
    (hcall : ∀ (vs : Array Value) (w : World), (callFunc f vs).run E.P w = .ok (.enter f vs) w) (ht : ∀ f F, lk tbl f = some F → OkFun E F)
    (h : ∀ a, iFun ⟨E.tt, tbl, own, fn.ntmps, argPP 0 ps, [], fz⟩ an (fn.body.getD .skip) ps rs ts a = sem a) : OkFun E ⟨f, ps, ts, sem⟩ := by
  refine ⟨hcall, fun a b hab => ?_⟩
  rw [show (Fun.mk f ps ts sem).sem a = sem a from rfl, ← h a] at hab
  obtain ⟨e1, e2, e3, e4⟩ := argGP_eq (k := 0) (ps := ps) (a := a) (b := b)
  refine CallOk.of_body hf (c := fn.body.getD .skip) (by cases hc : fn.body with | none => rw [hc] at hb; cases hb | some c => rfl) hres (by rw [e4]; exact Nat.le_of_ble_eq_true hn) ?_
  intro C hC hp hkg
  rw [e1, e2]
  rw [e3] at hp
  refine iC_sound (ic := ⟨E.tt, tbl, own, fn.ntmps, argPP 0 ps, [], fz⟩) ⟨rfl, hC.symm, hp.symm, ht, KG.nil hkg⟩ hab ?_
  intro e s hs
  cases e with
  | normal => exact finF_ok (.inl rfl) hs
  | ret => exact finF_ok (.inr rfl) hs
  | _ => cases hs

theorem tbl_nil : ∀ f F, lk ([] : List (Nat × Fun)) f = some F → OkFun E F := fun _ _ h => by cases h
theorem tbl_cons {k : Nat} {G : Fun} {l : List (Nat × Fun)} (h1 : OkFun E G) (h2 : ∀ f F, lk l f = some F → OkFun E F) : ∀ f F, lk ((k, G) :: l) f = some F → OkFun E F := fun f F h => by
  rw [lk_cons] at h
  split at h
  · cases h; exact h1
  · exact h2 f F h
end

/-- Scalars of zero values, compared. -/
def zEq : Value → Value → Bool
  | .int k a, .int k' b => if k = k' ∧ a = b then true else false
  | .bool a, .bool b => a == b
  | .string a, .string b => a.data.toList.isEmpty && b.data.toList.isEmpty
  | .slice none 0 0, .slice none 0 0 => true
  | .pointer none, .pointer none => true
  | _, _ => false
theorem ba_empty {a : ByteArray} (h : a.data.toList.isEmpty = true) : a = ByteArray.empty := by
  cases a with | mk d => cases d with | mk l => cases l with
    | nil => rfl
    | cons => cases h
theorem zEq.ok {a b : Value} (h : zEq a b = true) : a = b := by
  unfold zEq at h
  split at h
  · split at h
    · rename_i hh; obtain ⟨rfl, rfl⟩ := hh; rfl
    · cases h
  · rw [beq_iff_eq.1 h]
  · simp only [Bool.and_eq_true] at h
    rw [ba_empty h.1, ba_empty h.2]
  · rfl
  · rfl
  · cases h
def zEqL : List Value → List Value → Bool
  | [], [] => true
  | a :: l, b :: r => zEq a b && zEqL l r
  | _, _ => false
theorem zEqL.ok : ∀ {l r : List Value}, zEqL l r = true → l = r
  | [], [], _ => rfl
  | [], _ :: _, h => by cases h
  | _ :: _, [], h => by cases h
  | a :: l, b :: r, h => by
      simp only [zEqL, Bool.and_eq_true] at h
      rw [zEq.ok h.1, zEqL.ok h.2]

def infB (P : Program) (T : TypeId) (b : Nat) (z : Value) : Bool := match P.info? T with
  | some i => Nat.beq i.size 1 && Nat.ble i.bytes b && (match i.zero with | some y => zEq y z | none => false)
  | none => false
theorem infB.ok {P : Program} {T : TypeId} {b : Nat} {z : Value} (h : infB P T b z = true) : ∃ i, P.info? T = some i ∧ i.size = 1 ∧ i.bytes ≤ b ∧ i.zero = some z := by
  unfold infB at h
  split at h
  case h_2 => cases h
  rename_i i hi
  simp only [Bool.and_eq_true] at h
  obtain ⟨⟨h1, h2⟩, h3⟩ := h
  split at h3
  case h_2 => cases h3
  rename_i y hy
  exact ⟨i, hi, Nat.eq_of_beq_eq_true h1, Nat.le_of_ble_eq_true h2, by rw [hy, zEq.ok h3]⟩

mutual
def tyB (P : Program) : Ty → TypeId → Bool
  | .int k, T => infB P T 24 (.int k 0) && (match P.underlying T with | some (.int k') => if k' = k then true else false | _ => false)
  | .bool, T => infB P T 24 (.bool false) && (match P.underlying T with | some .bool => true | _ => false)
  | .str, T => infB P T 24 (.string ByteArray.empty) && (match P.underlying T with | some .string => true | _ => false)
  | .slc _ t, T => infB P T 24 (.slice none 0 0) && (match P.underlying T with | some (.slice S) => tyB P t S | _ => false)
  | .osl t, T => infB P T 24 (.slice none 0 0) && (match P.underlying T with | some (.slice S) => tyB P t S | _ => false)
  | .ptr _ t, T => infB P T 24 (.pointer none) && (match P.underlying T with | some (.pointer S) => tyB P t S | _ => false)
  | .optr t, T => infB P T 24 (.pointer none) && (match P.underlying T with | some (.pointer S) => tyB P t S | _ => false)
  | .st t, T => Nat.blt 0 t.size && match P.info? T with
    | some i => Nat.beq i.size t.size && Nat.ble i.bytes (24 * t.size) && (match i.zero with
      | some (.agg zs) => Nat.beq zs.size t.size && (match P.underlying T with | some (.struct fs) => fldB P t fs.toList 0 zs.toList | _ => false)
      | _ => false)
    | none => false
  | _, _ => false
def fldB (P : Program) : Ty → List Field → Nat → List Value → Bool
  | .pr a b, f :: r, off, zs => Nat.beq f.offset off && tyB P a f.type && Nat.blt 0 a.size && (match P.info? f.type with | some i => (match i.zero with | some z => zEqL (zs.take a.size) z.cells.toList | none => false) | none => false) && fldB P b r (off + a.size) (zs.drop a.size)
  | .nil, [], _, zs => zs.isEmpty
  | _, _, _, _ => false
end

mutual
theorem tyB.ok {P : Program} : ∀ {τ : Ty} {T : TypeId}, tyB P τ T = true → TyF P τ T
  | .int k, T, h => by
      simp only [tyB, Bool.and_eq_true] at h
      obtain ⟨h1, h2⟩ := h
      obtain ⟨i, q1, q2, q3, q4⟩ := infB.ok h1
      split at h2
      · rename_i k' hu
        split at h2
        · rename_i e; subst e; exact ⟨i, q1, q2, q3, q4, hu⟩
        · cases h2
      · cases h2
  | .bool, T, h => by
      simp only [tyB, Bool.and_eq_true] at h
      obtain ⟨h1, h2⟩ := h
      obtain ⟨i, q1, q2, q3, q4⟩ := infB.ok h1
      split at h2
      · rename_i hu; exact ⟨i, q1, q2, q3, q4, hu⟩
      · cases h2
  | .str, T, h => by
      simp only [tyB, Bool.and_eq_true] at h
      obtain ⟨h1, h2⟩ := h
      obtain ⟨i, q1, q2, q3, q4⟩ := infB.ok h1
      split at h2
      · rename_i hu; exact ⟨i, q1, q2, q3, q4, hu⟩
      · cases h2
  | .slc _ t, T, h => by
      simp only [tyB, Bool.and_eq_true] at h
      obtain ⟨h1, h2⟩ := h
      obtain ⟨i, q1, q2, q3, q4⟩ := infB.ok h1
      split at h2
      · rename_i S hu; exact ⟨i, S, q1, q2, q3, q4, hu, tyB.ok h2⟩
      · cases h2
  | .osl t, T, h => by
      simp only [tyB, Bool.and_eq_true] at h
      obtain ⟨h1, h2⟩ := h
      obtain ⟨i, q1, q2, q3, q4⟩ := infB.ok h1
      split at h2
      · rename_i S hu; exact ⟨i, S, q1, q2, q3, q4, hu, tyB.ok h2⟩
      · cases h2
  | .ptr _ t, T, h => by
      simp only [tyB, Bool.and_eq_true] at h
      obtain ⟨h1, h2⟩ := h
      obtain ⟨i, q1, q2, q3, q4⟩ := infB.ok h1
      split at h2
      · rename_i S hu; exact ⟨i, S, q1, q2, q3, q4, hu, tyB.ok h2⟩
      · cases h2
  | .optr t, T, h => by
      simp only [tyB, Bool.and_eq_true] at h
      obtain ⟨h1, h2⟩ := h
      obtain ⟨i, q1, q2, q3, q4⟩ := infB.ok h1
      split at h2
      · rename_i S hu; exact ⟨i, S, q1, q2, q3, q4, hu, tyB.ok h2⟩
      · cases h2
  | .st t, T, h => by
      simp only [tyB, Bool.and_eq_true] at h
      obtain ⟨h0, h⟩ := h
      split at h
      case h_2 => cases h
      rename_i i hi
      simp only [Bool.and_eq_true] at h
      obtain ⟨⟨h1, h2⟩, h⟩ := h
      split at h
      case h_2 => cases h
      rename_i zs hz
      simp only [Bool.and_eq_true] at h
      obtain ⟨h3, h⟩ := h
      split at h
      case h_2 => cases h
      rename_i fs hu
      exact ⟨Nat.le_of_ble_eq_true h0, i, fs, zs, hi, Nat.eq_of_beq_eq_true h1, Nat.le_of_ble_eq_true h2, hz, hu, fldB.ok h, Nat.eq_of_beq_eq_true h3⟩
  | .pr _ _, _, h => by cases h
  | .nil, _, h => by cases h
  | .blk, _, h => by cases h
theorem fldB.ok {P : Program} : ∀ {τ : Ty} {fs : List Field} {off : Nat} {zs : List Value}, fldB P τ fs off zs = true → FldF P τ fs off zs
  | .pr a b, [], off, zs, h => by cases h
  | .pr a b, f :: r, off, zs, h => by
      simp only [fldB, Bool.and_eq_true] at h
      obtain ⟨⟨⟨⟨h1, h2⟩, h3⟩, h4⟩, h5⟩ := h
      split at h4
      case h_2 => cases h4
      rename_i i hi
      split at h4
      case h_2 => cases h4
      rename_i z hz
      exact ⟨Nat.eq_of_beq_eq_true h1, tyB.ok h2, Nat.le_of_ble_eq_true h3, ⟨i, z, hi, hz, zEqL.ok h4⟩, fldB.ok h5⟩
  | .nil, [], off, zs, h => by
      have h : zs = [] := by simpa [fldB] using h
      exact h
  | .nil, _ :: _, off, zs, h => by cases h
  | .int _, fs, off, zs, h => by cases fs <;> cases h
  | .bool, fs, off, zs, h => by cases fs <;> cases h
  | .str, fs, off, zs, h => by cases fs <;> cases h
  | .slc _ _, fs, off, zs, h => by cases fs <;> cases h
  | .ptr _ _, fs, off, zs, h => by cases fs <;> cases h
  | .osl _, fs, off, zs, h => by cases fs <;> cases h
  | .optr _, fs, off, zs, h => by cases fs <;> cases h
  | .st _, fs, off, zs, h => by cases fs <;> cases h
  | .blk, fs, off, zs, h => by cases fs <;> cases h
end

theorem tt_ok {P : Program} : ∀ {tt : List (TypeId × Ty)}, (tt.all fun q => tyB P q.2 q.1) = true → ∀ T τ, lk tt T = some τ → TyF P τ T
  | [], _, _, _, h => by cases h
  | (k, σ) :: r, h, T, τ, hl => by
      simp only [List.all_cons, Bool.and_eq_true] at h
      rw [lk_cons] at hl
      split at hl
      · rename_i e; cases hl; subst e; exact tyB.ok h.1
      · exact tt_ok (by simpa using h.2) T τ hl
end Go.Fw
