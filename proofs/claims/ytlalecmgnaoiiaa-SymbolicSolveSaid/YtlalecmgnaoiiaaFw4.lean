/-
  The framework, part 4: what is asked of the program's table of types; loads, stores, zero values.
-/
import Derived.Test.YtlalecmgnaoiiaaFw3
namespace Go.Fw

mutual
/-- Type T of the program is laid out as τ. -/
def TyF (P : Program) : Ty → TypeId → Prop
  | .int k, T => ∃ i, P.info? T = some i ∧ i.size = 1 ∧ i.bytes ≤ 24 ∧ i.zero = some (.int k 0) ∧ P.underlying T = some (.int k)
  | .bool, T => ∃ i, P.info? T = some i ∧ i.size = 1 ∧ i.bytes ≤ 24 ∧ i.zero = some (.bool false) ∧ P.underlying T = some .bool
  | .str, T => ∃ i, P.info? T = some i ∧ i.size = 1 ∧ i.bytes ≤ 24 ∧ i.zero = some (.string ByteArray.empty) ∧ P.underlying T = some .string
  | .slc _ t, T => ∃ i E, P.info? T = some i ∧ i.size = 1 ∧ i.bytes ≤ 24 ∧ i.zero = some (.slice none 0 0) ∧ P.underlying T = some (.slice E) ∧ TyF P t E
  | .osl t, T => ∃ i E, P.info? T = some i ∧ i.size = 1 ∧ i.bytes ≤ 24 ∧ i.zero = some (.slice none 0 0) ∧ P.underlying T = some (.slice E) ∧ TyF P t E
  | .ptr _ t, T => ∃ i E, P.info? T = some i ∧ i.size = 1 ∧ i.bytes ≤ 24 ∧ i.zero = some (.pointer none) ∧ P.underlying T = some (.pointer E) ∧ TyF P t E
  | .optr t, T => ∃ i E, P.info? T = some i ∧ i.size = 1 ∧ i.bytes ≤ 24 ∧ i.zero = some (.pointer none) ∧ P.underlying T = some (.pointer E) ∧ TyF P t E
  | .st t, T => 0 < t.size ∧ ∃ i fs zs, P.info? T = some i ∧ i.size = t.size ∧ i.bytes ≤ 24 * t.size ∧ i.zero = some (.agg zs) ∧ P.underlying T = some (.struct fs) ∧ FldF P t fs.toList 0 zs.toList ∧ zs.size = t.size
  | _, _ => False
/-- The fields of a struct from a place on, and their zero cells. -/
def FldF (P : Program) : Ty → List Field → Nat → List Value → Prop
  | .pr a b, f :: r, off, zs => f.offset = off ∧ TyF P a f.type ∧ 0 < a.size ∧ (∃ i z, P.info? f.type = some i ∧ i.zero = some z ∧ zs.take a.size = z.cells.toList) ∧ FldF P b r (off + a.size) (zs.drop a.size)
  | .nil, [], _, zs => zs = []
  | _, _, _, _ => False
end

def isSt : Ty → Bool
  | .st _ => true
  | _ => false

structure TyI (P : Program) (τ : Ty) (T : TypeId) (i : TypeInfo) : Prop where
  info : P.info? T = some i
  size : i.size = τ.size
  bytes : i.bytes ≤ 24 * τ.size
  pos : 0 < τ.size

theorem TyF.info {P : Program} : ∀ {τ : Ty} {T : TypeId}, TyF P τ T → ∃ i d, TyI P τ T i ∧ P.underlying T = some d ∧ (match d with | .struct _ | .array _ _ => true | _ => false) = isSt τ
  | .int _, _, ⟨i, h1, h2, h3, _, h5⟩ => ⟨i, _, ⟨h1, h2, h3, by simp [Ty.size]⟩, h5, rfl⟩
  | .bool, _, ⟨i, h1, h2, h3, _, h5⟩ => ⟨i, _, ⟨h1, h2, h3, by simp [Ty.size]⟩, h5, rfl⟩
  | .str, _, ⟨i, h1, h2, h3, _, h5⟩ => ⟨i, _, ⟨h1, h2, h3, by simp [Ty.size]⟩, h5, rfl⟩
  | .slc _ _, _, ⟨i, _, h1, h2, h3, _, h5, _⟩ => ⟨i, _, ⟨h1, h2, h3, by simp [Ty.size]⟩, h5, rfl⟩
  | .osl _, _, ⟨i, _, h1, h2, h3, _, h5, _⟩ => ⟨i, _, ⟨h1, h2, h3, by simp [Ty.size]⟩, h5, rfl⟩
  | .ptr _ _, _, ⟨i, _, h1, h2, h3, _, h5, _⟩ => ⟨i, _, ⟨h1, h2, h3, by simp [Ty.size]⟩, h5, rfl⟩
  | .optr _, _, ⟨i, _, h1, h2, h3, _, h5, _⟩ => ⟨i, _, ⟨h1, h2, h3, by simp [Ty.size]⟩, h5, rfl⟩
  | .st t, _, ⟨h0, i, _, _, h1, h2, h3, _, h5, _⟩ => ⟨i, _, ⟨h1, h2, h3, h0⟩, h5, rfl⟩
  | .pr _ _, _, h => h.elim
  | .nil, _, h => h.elim
  | .blk, _, h => h.elim

theorem TyF.hasZero {P : Program} : ∀ {τ : Ty} {T : TypeId}, TyF P τ T → ∃ z, z.cells.size = τ.size ∧ ∀ i, P.info? T = some i → i.zero = some z
  | .int _, _, ⟨i, h1, _, _, h4, _⟩ | .bool, _, ⟨i, h1, _, _, h4, _⟩ | .str, _, ⟨i, h1, _, _, h4, _⟩ => ⟨_, rfl, fun j hj => by rw [h1] at hj; cases hj; exact h4⟩
  | .slc _ _, _, ⟨i, _, h1, _, _, h4, _⟩ | .osl _, _, ⟨i, _, h1, _, _, h4, _⟩ | .ptr _ _, _, ⟨i, _, h1, _, _, h4, _⟩ | .optr _, _, ⟨i, _, h1, _, _, h4, _⟩ => ⟨_, rfl, fun j hj => by rw [h1] at hj; cases hj; exact h4⟩
  | .st t, _, ⟨h0, i, _, zs, h1, h2, h3, h4, h5, _, h7⟩ => ⟨.agg zs, h7, fun j hj => by rw [h1] at hj; cases hj; exact h4⟩
  | .pr _ _, _, h => h.elim
  | .nil, _, h => h.elim
  | .blk, _, h => h.elim

section
variable {P : Program} {τ : Ty} {T : TypeId}
theorem TyF.sizeOf (h : TyF P τ T) (w : World) : (Go.sizeOf T).run P w = .ok τ.size w := by
  obtain ⟨i, d, hi, _⟩ := h.info
  simp [Go.sizeOf, typeInfo, hi.info, hi.size]
theorem TyF.isAgg (h : TyF P τ T) (w : World) : (Go.isAgg T).run P w = .ok (isSt τ) w := by
  obtain ⟨i, d, hi, hu, hd⟩ := h.info
  simp only [Go.isAgg, Sem.run_bind, run_underlying hu, Result.andThen_ok]
  rw [← hd]
  cases d <;> rfl
theorem TyF.pos (h : TyF P τ T) : 0 < τ.size := by
  obtain ⟨i, d, hi, _⟩ := h.info
  exact hi.pos

theorem one_of_not_st : ∀ {τ : Ty} {T : TypeId}, TyF P τ T → isSt τ = false → τ.size = 1
  | .int _, _, _, _ | .bool, _, _, _ | .str, _, _, _ | .slc _ _, _, _, _ | .osl _, _, _, _ | .ptr _ _, _, _, _ | .optr _, _, _, _ => rfl
  | .st _, _, _, h => by cases h
  | .pr _ _, _, h, _ => h.elim
  | .nil, _, h, _ => h.elim
  | .blk, _, h, _ => h.elim

theorem regV_of_not_st {cs : List Value} (h : isSt τ = false) : regV τ cs = cs.headD undef := by
  cases τ <;> first | rfl | cases h
theorem regV_of_st {cs : List Value} (h : isSt τ = true) : regV τ cs = .agg cs.toArray := by
  cases τ <;> first | rfl | cases h

theorem regV_cells {cs : List Value} (h : TyF P τ T) (hl : cs.length = τ.size) (h1 : ∀ v ∈ cs, v.oneCell' = true) : (regV τ cs).cells = cs.toArray := by
  cases hs : isSt τ with
  | true => rw [regV_of_st hs]; rfl
  | false =>
    rw [regV_of_not_st hs]
    rw [one_of_not_st h hs] at hl
    obtain ⟨v, rfl⟩ := List.length_eq_one_iff.1 hl
    have := h1 v (by simp)
    cases v <;> first | rfl | (simp [Value.oneCell'] at this)

theorem run_loadVar {w : World} {b o : Nat} {cs : List Value} (h : TyF P τ T) (ha : At w b o cs) (hl : cs.length = τ.size) : (loadVar T ⟨b, o, none⟩).run P w = .ok (regV τ cs) w := by
  simp only [loadVar, Sem.run_bind, h.isAgg, Result.andThen_ok]
  cases hs : isSt τ with
  | true =>
    simp only [if_true, Sem.run_bind, h.sizeOf, Result.andThen_ok]
    rw [← hl, run_loadCells_list w ⟨b, o, none⟩ cs (fun j v hj => by rw [Addr.add_lit]; exact ha j v hj)]
    rw [regV_of_st hs]
    rfl
  | false =>
    rw [one_of_not_st h hs] at hl
    obtain ⟨v, rfl⟩ := List.length_eq_one_iff.1 hl
    have := ha 0 v rfl
    simp only [Nat.add_zero] at this
    rw [regV_of_not_st hs]
    simp [this]

theorem run_storeVar {w : World} {b o : Nat} {cs : List Value} (h : TyF P τ T) (hl : cs.length = τ.size) (h1 : ∀ v ∈ cs, v.oneCell' = true) (hf : Fr w b o (o + τ.size)) :
    (storeVar T ⟨b, o, none⟩ (regV τ cs)).run P w = .ok () (w.setCells b o cs) := by
  have hst := run_storeCells_cells (P := P) b o cs 0 w (fun j hj => by simpa using (hf (o + j) (by omega) (by omega)).1) (fun j hj => by simpa using (hf (o + j) (by omega) (by omega)).2) h1
  simp only [storeVar, regV_cells h hl h1, Sem.run_bind, h.sizeOf, Result.andThen_ok]
  simpa [hl] using hst
end

/-- The zero of a type. -/
def zeroD : (τ : Ty) → Option τ.den
  | .int _ => some (0 : Int)
  | .bool => some false
  | .str => some ByteArray.empty
  | .slc _ _ => some []
  | .osl _ => some []
  | .ptr _ _ => some none
  | .optr _ => none
  | .st t => zeroD t
  | .pr a b => match zeroD a, zeroD b with | some x, some y => some (x, y) | _, _ => none
  | .nil => some ()
  | .blk => none

mutual
theorem zero_rep {P : Program} : ∀ {τ : Ty} {T : TypeId} {z : τ.den}, TyF P τ T → zeroD τ = some z → ∃ i zv, P.info? T = some i ∧ i.zero = some zv ∧ zv = regV τ zv.cells.toList ∧ ∀ (M : Md → Nat → Prop) (w : World), Rep M w τ zv.cells.toList z []
  | .int k, _, z, ⟨i, h1, h2, h3, h4, h5⟩, hz => ⟨i, _, h1, h4, rfl, fun M w => by cases hz; exact ⟨rfl, rfl⟩⟩
  | .bool, _, z, ⟨i, h1, h2, h3, h4, h5⟩, hz => ⟨i, _, h1, h4, rfl, fun M w => by cases hz; exact ⟨rfl, rfl⟩⟩
  | .str, _, z, ⟨i, h1, h2, h3, h4, h5⟩, hz => ⟨i, _, h1, h4, rfl, fun M w => by cases hz; exact ⟨rfl, rfl⟩⟩
  | .slc _ _, _, z, ⟨i, _, h1, h2, h3, h4, h5, _⟩, hz => ⟨i, _, h1, h4, rfl, fun M w => by cases hz; exact ⟨rfl, none, 0, rfl, Nat.le_refl _, fun _ => rfl, .inl rfl⟩⟩
  | .osl _, _, z, ⟨i, _, h1, h2, h3, h4, h5, _⟩, hz => ⟨i, _, h1, h4, rfl, fun M w => by cases hz; exact ⟨none, 0, rfl, .inl ⟨rfl, rfl, rfl, rfl⟩⟩⟩
  | .ptr _ _, _, z, ⟨i, _, h1, h2, h3, h4, h5, _⟩, hz => ⟨i, _, h1, h4, rfl, fun M w => by cases hz; exact ⟨rfl, rfl⟩⟩
  | .optr _, _, _, _, hz => by cases hz
  | .st t, _, z, ⟨_, i, fs, zs, h1, h2, h3, h4, h5, h6, _⟩, hz => ⟨i, _, h1, h4, rfl, fun M w => zero_fld (τ := t) h6 hz M w⟩
  | .pr _ _, _, _, h, _ => h.elim
  | .nil, _, _, h, _ => h.elim
  | .blk, _, _, h, _ => h.elim
theorem zero_fld {P : Program} : ∀ {τ : Ty} {fs : List Field} {off : Nat} {zs : List Value} {z : τ.den}, FldF P τ fs off zs → zeroD τ = some z → ∀ (M : Md → Nat → Prop) (w : World), Rep M w τ zs z []
  | .pr a b, f :: r, off, zs, z, h, hz, M, w => by
      obtain ⟨h1, h2, h3, ⟨i, zv, q1, q2, q3⟩, h4⟩ := h
      simp only [zeroD] at hz
      split at hz
      · rename_i x y hx hy
        cases hz
        obtain ⟨i', zv', r1, r2, _, r3⟩ := zero_rep (τ := a) h2 hx
        rw [q1] at r1
        obtain rfl := Option.some.inj r1
        rw [q2] at r2
        obtain rfl := Option.some.inj r2
        exact ⟨[], [], rfl, by rw [q3]; exact r3 M w, zero_fld (τ := b) h4 hy M w⟩
      · cases hz
  | .nil, [], _, zs, z, h, hz, M, w => ⟨rfl, h⟩
  | .pr _ _, [], _, _, _, h, _, _, _ => h.elim
  | .nil, _ :: _, _, _, _, h, _, _, _ => h.elim
  | .int _, _, _, _, _, h, _, _, _ => by cases h
  | .bool, _, _, _, _, h, _, _, _ => by cases h
  | .str, _, _, _, _, h, _, _, _ => by cases h
  | .slc _ _, _, _, _, _, h, _, _, _ => by cases h
  | .osl _, _, _, _, _, h, _, _, _ => by cases h
  | .ptr _ _, _, _, _, _, h, _, _, _ => by cases h
  | .optr _, _, _, _, _, h, _, _, _ => by cases h
  | .st _, _, _, _, _, h, _, _, _ => by cases h
  | .blk, _, _, _, _, h, _, _, _ => by cases h
end

/-- Laid out alike. -/
def sameLay : Ty → Ty → Bool
  | .int k, .int k' => if k = k' then true else false
  | .bool, .bool | .str, .str | .nil, .nil => true
  | .slc _ t, .slc _ u | .slc _ t, .osl u | .osl t, .slc _ u | .osl t, .osl u => sameLay t u
  | .ptr _ t, .ptr _ u | .ptr _ t, .optr u | .optr t, .ptr _ u | .optr t, .optr u => sameLay t u
  | .st t, .st u => sameLay t u
  | .pr a b, .pr c d => sameLay a c && sameLay b d
  | _, _ => false

theorem sameLay.size : ∀ {τ υ : Ty}, sameLay τ υ = true → τ.size = υ.size := by
  intro τ
  induction τ with
  | st t ih => intro υ h; cases υ <;> simp only [sameLay] at h <;> first | (simp only [Ty.size]; exact ih h) | cases h
  | pr a b iha ihb =>
    intro υ h
    cases υ <;> simp only [sameLay] at h <;> try (cases h; done)
    simp only [Bool.and_eq_true] at h
    simp only [Ty.size]; rw [iha h.1, ihb h.2]
  | _ => intro υ h; cases υ <;> simp [sameLay] at h <;> simp [Ty.size]

mutual
theorem TyF.lay {P : Program} : ∀ {τ υ : Ty} {T : TypeId}, sameLay τ υ = true → TyF P τ T → TyF P υ T
  | .int k, υ, _, hs, h => by
      cases υ <;> simp [sameLay] at hs
      subst hs; exact h
  | .bool, υ, _, hs, h => by cases υ <;> simp [sameLay] at hs; exact h
  | .str, υ, _, hs, h => by cases υ <;> simp [sameLay] at hs; exact h
  | .slc _ t, υ, _, hs, h => by
      obtain ⟨i, E, h1, h2, h3, h4, h5, h6⟩ := h
      cases υ <;> simp only [sameLay] at hs <;> first | exact ⟨i, E, h1, h2, h3, h4, h5, TyF.lay hs h6⟩ | cases hs
  | .osl t, υ, _, hs, h => by
      obtain ⟨i, E, h1, h2, h3, h4, h5, h6⟩ := h
      cases υ <;> simp only [sameLay] at hs <;> first | exact ⟨i, E, h1, h2, h3, h4, h5, TyF.lay hs h6⟩ | cases hs
  | .ptr _ t, υ, _, hs, h => by
      obtain ⟨i, E, h1, h2, h3, h4, h5, h6⟩ := h
      cases υ <;> simp only [sameLay] at hs <;> first | exact ⟨i, E, h1, h2, h3, h4, h5, TyF.lay hs h6⟩ | cases hs
  | .optr t, υ, _, hs, h => by
      obtain ⟨i, E, h1, h2, h3, h4, h5, h6⟩ := h
      cases υ <;> simp only [sameLay] at hs <;> first | exact ⟨i, E, h1, h2, h3, h4, h5, TyF.lay hs h6⟩ | cases hs
  | .st t, υ, _, hs, h => by
      obtain ⟨h0, i, fs, zs, h1, h2, h3, h4, h5, h6, h7⟩ := h
      cases υ <;> simp only [sameLay] at hs <;> try (cases hs; done)
      have := sameLay.size hs
      exact ⟨by omega, i, fs, zs, h1, by omega, by omega, h4, h5, FldF.lay hs h6, by omega⟩
  | .pr _ _, _, _, _, h => h.elim
  | .nil, _, _, _, h => h.elim
  | .blk, _, _, _, h => h.elim
theorem FldF.lay {P : Program} : ∀ {τ υ : Ty} {fs : List Field} {off : Nat} {zs : List Value}, sameLay τ υ = true → FldF P τ fs off zs → FldF P υ fs off zs
  | .pr a b, υ, f :: r, off, zs, hs, h => by
      obtain ⟨h1, h2, h3, h4, h5⟩ := h
      cases υ <;> simp only [sameLay] at hs <;> try (cases hs; done)
      simp only [Bool.and_eq_true] at hs
      have := sameLay.size hs.1
      exact ⟨h1, TyF.lay hs.1 h2, by omega, by rw [← this]; exact h4, by rw [← this]; exact FldF.lay hs.2 h5⟩
  | .nil, υ, [], _, _, hs, h => by cases υ <;> simp [sameLay] at hs; exact h
  | .pr _ _, _, [], _, _, _, h => h.elim
  | .nil, _, _ :: _, _, _, _, h => h.elim
  | .int _, _, _, _, _, _, h => by cases h
  | .bool, _, _, _, _, _, h => by cases h
  | .str, _, _, _, _, _, h => by cases h
  | .slc _ _, _, _, _, _, _, h => by cases h
  | .osl _, _, _, _, _, _, h => by cases h
  | .ptr _ _, _, _, _, _, _, h => by cases h
  | .optr _, _, _, _, _, _, h => by cases h
  | .st _, _, _, _, _, _, h => by cases h
  | .blk, _, _, _, _, _, h => by cases h
end

/-- The table of types that a proof uses, with what is asked of it. -/
structure Env where
  P : Program
  tt : List (TypeId × Ty)
  ok : ∀ T τ, lk tt T = some τ → TyF P τ T
  mix : P.follows .mixedOrders = true
end Go.Fw
