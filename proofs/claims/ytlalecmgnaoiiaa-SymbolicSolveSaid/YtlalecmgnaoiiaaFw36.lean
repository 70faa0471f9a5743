/-
  The framework, part 36 (after 25): from a function to the given statement of a law.
-/
import Derived.Test.YtlalecmgnaoiiaaFw25
import Derived.ProofKit
import Derived.Handed
namespace Go.Fw

/-- The numbers of a value are of their kinds, its lists not longer than memory. -/
def Rng : (τ : Ty) → τ.den → Prop
  | .int k, n => (Lit.int k n).wf = true
  | .slc _ t, xs => xs.length ≤ maxLen ∧ ∀ x ∈ xs, Rng t x
  | .ptr _ t, x => ∀ y, x = some y → Rng t y
  | .st t, x => Rng t x
  | .pr a b, x => Rng a x.1 ∧ Rng b x.2
  | _, _ => True

/-- Types of a law's arguments. -/
def argB : Ty → Bool
  | .int _ | .bool | .str | .nil => true
  | .slc _ t | .ptr _ t | .st t => argB t
  | .pr a b => argB a && argB b
  | _ => false

theorem cellsOf_eq {P : Program} {τ : Ty} {T : TypeId} (h : TyF P τ T) : P.cellsOf T = τ.size := by
  obtain ⟨i, d, hi, _⟩ := h.info
  unfold Program.cellsOf
  rw [hi.info]; simp [hi.size]

section
variable {H : Type} {enc : TypeId × Value → H} {P : Program} {w : World}

theorem cells_at {base : Nat} {a : Addr} {n : Nat} {cs : List Value} (h : w.cells? base a n = some cs) (hn : 0 < n) : a.spot = none ∧ cs.length = n ∧ a.block < w.heap.size ∧ At w a.block a.off cs := by
  have hlt := World.cells?_block h hn
  obtain ⟨_, hl, hg⟩ := World.cells?_some h
  have hsp : a.spot = none := by
    have h0 := hg 0 hn
    have : (w.cell? (a.add 0)).isSome = true := by rw [h0]; simp [List.getElem?_eq_getElem (show 0 < cs.length by omega)]
    simp only [Addr.add, if_true] at this
    unfold World.cell? at this
    split at this
    · cases hs : a.spot with
      | none => rfl
      | some x => rw [hs] at this; simp at this
    · cases this
  refine ⟨hsp, hl, hlt, fun j v hj => ?_⟩
  have hjl : j < n := by rw [← hl]; exact (List.getElem?_eq_some_iff.1 hj).1
  have := hg j hjl
  rw [hj] at this
  rw [← this]
  congr 1
  unfold Addr.add
  obtain ⟨b, o, sp⟩ := a
  simp only at hsp
  subst hsp
  split
  · rename_i h0; subst h0; rfl
  · rfl

def Old (w : World) : Md → Nat → Prop := fun _ b => b < w.heap.size

mutual
/-- What is read is there. -/
theorem trod_rep : ∀ {τ : Ty} {T : TypeId} {cs : List Value} {fuel : Nat} {x : DataW H × List MemPlace}, argB τ = true → TyF P τ T → DataW.trod enc P w 0 (fun _ => true) true fuel T cs = some x → ∃ y : τ.den, Rep (Old w) w τ cs y [] ∧ Rng τ y
  | .int k, T, cs, fuel, x, _, ⟨i, _, _, _, _, hu⟩, h => by
      obtain ⟨n, rfl, _, hw⟩ := DataW.trod_int hu h
      exact ⟨n, ⟨rfl, rfl⟩, hw⟩
  | .bool, T, cs, fuel, x, _, ⟨i, _, _, _, _, hu⟩, h => by
      obtain ⟨b, rfl, _⟩ := DataW.trod_bool hu h
      exact ⟨b, ⟨rfl, rfl⟩, trivial⟩
  | .str, T, cs, fuel, x, _, ⟨i, _, _, _, _, hu⟩, h => by
      obtain ⟨s, rfl, _, _⟩ := DataW.trod_string hu h
      exact ⟨s, ⟨rfl, rfl⟩, trivial⟩
  | .slc m t, T, cs, fuel, x, ha, ⟨i, S, _, _, _, _, hu, ht⟩, h => by
      rcases DataW.trod_slice hu h with ⟨rfl, _⟩ | ⟨a, len, cap, elems, rest, n, rfl, rfl, _, _, hlc, hcm, hel, hget, _⟩
      · exact ⟨[], ⟨rfl, none, 0, rfl, Nat.le_refl _, fun _ => rfl, .inl rfl⟩, by simp [maxLen], by simp⟩
      have hc := cellsOf_eq ht
      have hpos := ht.pos
      have each : ∀ i, i < len → ∃ y : t.den, ∃ ds : List Value, ds.length = t.size ∧ w.cells? 0 (a.add (i * t.size)) t.size = some ds ∧ Rep (Old w) w t ds y [] ∧ Rng t y := by
        intro i hi
        have h1 := hget i hi
        have h2 : elems[i]? = some (elems[i]'(by omega)) := List.getElem?_eq_getElem _
        rw [h2] at h1
        obtain ⟨ds, h3, h4⟩ := Option.bind_eq_some_iff.1 h1
        rw [hc] at h3
        obtain ⟨y, hy, hr⟩ := trod_rep (τ := t) ha ht h4
        exact ⟨y, ds, hy.len, h3, hy, hr⟩
      have hlist : ∀ k, k ≤ len → ∃ xs : List t.den, xs.length = k ∧ ∀ (i : Nat) (y : t.den), xs[i]? = some y → ∃ ds : List Value, ds.length = t.size ∧ w.cells? 0 (a.add (i * t.size)) t.size = some ds ∧ Rep (Old w) w t ds y [] ∧ Rng t y := by
        intro k
        induction k with
        | zero => intro _; exact ⟨[], rfl, fun i y h => by simp at h⟩
        | succ k ih =>
          intro hk
          obtain ⟨xs, h1, h2⟩ := ih (by omega)
          obtain ⟨y, ds, h3⟩ := each k (by omega)
          refine ⟨xs ++ [y], by simp [h1], fun i z hz => ?_⟩
          rcases Nat.lt_or_ge i xs.length with hi | hi
          · rw [List.getElem?_append_left hi] at hz; exact h2 i z hz
          · rw [List.getElem?_append_right hi] at hz
            have hik : i = k := by
              have := (List.getElem?_eq_some_iff.1 hz).1
              simp at this; omega
            subst hik
            rw [h1, Nat.sub_self] at hz
            simp only [List.getElem?_cons_zero, Option.some.injEq] at hz
            subst hz
            exact ⟨ds, h3⟩
      obtain ⟨xs, h1, h2⟩ := hlist len (Nat.le_refl _)
      refine ⟨xs, ⟨rfl, some a, cap, by rw [h1], by rw [h1]; exact hlc, (fun h => by cases h), ?_⟩, by rw [h1]; omega, fun y hy => ?_⟩
      · cases len with
        | zero => exact .inl (List.length_eq_zero_iff.1 h1)
        | succ len =>
          right
          obtain ⟨y0, ds0, _, hc0, _⟩ := each 0 (by omega)
          have ha0 : a.add (0 * t.size) = a := by simp [Addr.add]
          rw [ha0] at hc0
          obtain ⟨hsp, _, hlt, _⟩ := cells_at hc0 hpos
          refine ⟨a.block, a.off, by obtain ⟨b, o, sp⟩ := a; simp only at hsp; subst hsp; rfl, hlt, fun i y hy => ?_⟩
          obtain ⟨ds, d1, d2, d3, _⟩ := h2 i y hy
          obtain ⟨_, _, _, hat⟩ := cells_at d2 hpos
          refine ⟨ds, d1, ?_, d3⟩
          have e1 : (a.add (i * t.size)).block = a.block := by unfold Addr.add; split <;> rfl
          have e2 : (a.add (i * t.size)).off = a.off + i * t.size := by
            unfold Addr.add
            split
            · rename_i h0; rw [h0]; rfl
            · rfl
          rw [e1, e2] at hat
          exact hat
      · obtain ⟨i, hi, rfl⟩ := List.mem_iff_getElem.1 hy
        obtain ⟨_, _, _, _, hr⟩ := h2 i _ (List.getElem?_eq_getElem hi)
        exact hr
  | .ptr m t, T, cs, fuel, x, ha, ⟨i, S, _, _, _, _, hu, ht⟩, h => by
      rcases DataW.trod_pointer hu h with ⟨rfl, _⟩ | ⟨a, cs', y, n, rfl, rfl, _, h3, h4⟩
      · exact ⟨none, ⟨rfl, rfl⟩, fun y h => by cases h⟩
      rw [cellsOf_eq ht] at h3
      obtain ⟨z, hz, hr⟩ := trod_rep (τ := t) ha ht h4
      obtain ⟨hsp, _, hlt, hat⟩ := cells_at h3 ht.pos
      refine ⟨some z, ⟨rfl, a.block, a.off, cs', by obtain ⟨b, o, sp⟩ := a; simp only at hsp; subst hsp; rfl, hlt, hz.len, hat, hz⟩, fun y h => by cases h; exact hr⟩
  | .st t, T, cs, fuel, x, ha, ⟨_, i, fs, zs, hi, hs, _, _, hu, hf, _⟩, h => by
      obtain ⟨xs, n, rfl, _, hl, hx, hget⟩ := DataW.trod_struct hu h
      have hc : P.cellsOf T = t.size := by unfold Program.cellsOf; rw [hi]; simp [hs]
      obtain ⟨y, hy, hr⟩ := trod_fld (τ := t) (fs := fs.toList) (cs := cs) ha hf (by rw [Nat.zero_add, ← hc]; exact hl) (fun j f hf => by
        have hf : fs[j]? = some f := by simpa using hf
        have := hget j f hf
        have hj : j < xs.length := by rw [hx]; exact (Array.getElem?_eq_some_iff.1 hf).1
        rw [List.getElem?_eq_getElem hj] at this
        exact ⟨_, _, this⟩)
      rw [List.drop_zero] at hy
      exact ⟨y, hy, hr⟩
  | .osl _, _, _, _, _, ha, _, _ => by cases ha
  | .optr _, _, _, _, _, ha, _, _ => by cases ha
  | .pr _ _, _, _, _, _, _, hT, _ => hT.elim
  | .nil, _, _, _, _, _, hT, _ => hT.elim
  | .blk, _, _, _, _, ha, _, _ => by cases ha
theorem trod_fld : ∀ {τ : Ty} {fs : List Field} {off : Nat} {zs cs : List Value}, argB τ = true → FldF P τ fs off zs → cs.length = off + τ.size →
    (∀ (j : Nat) f, fs[j]? = some f → ∃ (n : Nat) (x : DataW H × List MemPlace), DataW.trod enc P w 0 (fun _ => true) true n f.type ((cs.drop f.offset).take (P.cellsOf f.type)) = some x) → ∃ y : τ.den, Rep (Old w) w τ (cs.drop off) y [] ∧ Rng τ y
  | .pr a b, f :: r, off, zs, cs, ha, hF, hl, hx => by
      simp only [argB, Bool.and_eq_true] at ha
      obtain ⟨h1, h2, h3, _, h5⟩ := hF
      obtain ⟨n, x, hn⟩ := hx 0 f rfl
      rw [h1, cellsOf_eq h2] at hn
      obtain ⟨y1, k1, k2⟩ := trod_rep ha.1 h2 hn
      obtain ⟨y2, k3, k4⟩ := trod_fld (cs := cs) ha.2 h5 (by rw [hl]; simp only [Ty.size]; omega) (fun j g hg => hx (j + 1) g hg)
      exact ⟨(y1, y2), ⟨[], [], rfl, k1, by rw [List.drop_drop]; exact k3⟩, k2, k4⟩
  | .nil, [], off, zs, cs, _, _, hl, _ => by
      refine ⟨(), ⟨rfl, ?_⟩, trivial⟩
      rw [List.drop_eq_nil_iff]
      simp only [Ty.size] at hl; omega
  | .pr _ _, [], _, _, _, _, h, _, _ => h.elim
  | .nil, _ :: _, _, _, _, _, h, _, _ => h.elim
  | .int _, fs, _, _, _, _, h, _, _ => by cases fs <;> exact h.elim
  | .bool, fs, _, _, _, _, h, _, _ => by cases fs <;> exact h.elim
  | .str, fs, _, _, _, _, h, _, _ => by cases fs <;> exact h.elim
  | .slc _ _, fs, _, _, _, _, h, _, _ => by cases fs <;> exact h.elim
  | .ptr _ _, fs, _, _, _, _, h, _, _ => by cases fs <;> exact h.elim
  | .osl _, fs, _, _, _, _, h, _, _ => by cases fs <;> exact h.elim
  | .optr _, fs, _, _, _, _, h, _, _ => by cases fs <;> exact h.elim
  | .st _, fs, _, _, _, _, h, _, _ => by cases fs <;> exact h.elim
  | .blk, fs, _, _, _, _, h, _, _ => by cases fs <;> exact h.elim
end

/-- The value of an argument is that of its cells. -/
theorem okWide_regV {τ : Ty} {T : TypeId} {base : Nat} {v : Value} (ha : argB τ = true) (hT : TyF P τ T) (h : Value.okWide P w .any base T v) : v = regV τ v.cells.toList := by
  cases τ with
  | int k =>
    obtain ⟨i, _, _, _, _, hu⟩ := hT
    obtain ⟨n, rfl⟩ := Go.WideShapes.okWide_int hu h; rfl
  | bool =>
    obtain ⟨i, _, _, _, _, hu⟩ := hT
    obtain ⟨n, rfl⟩ := Go.WideShapes.okWide_bool hu h; rfl
  | str =>
    obtain ⟨i, _, _, _, _, hu⟩ := hT
    obtain ⟨n, rfl⟩ := Go.WideShapes.okWide_string hu h; rfl
  | slc m t =>
    obtain ⟨i, S, _, _, _, _, hu, _⟩ := hT
    obtain ⟨a, l, c, rfl⟩ := Go.WideShapes.okWide_slice hu h; rfl
  | ptr m t =>
    obtain ⟨i, S, _, _, _, _, hu, _⟩ := hT
    simp only [Value.okWide, hu, Cell.okWide] at h
    cases v <;> first | rfl | simp_all [Cell.ok]
  | st t =>
    obtain ⟨_, i, fs, zs, _, _, _, _, hu, _, _⟩ := hT
    simp only [Value.okWide, hu] at h
    obtain ⟨cs, rfl, _⟩ := h
    rfl
  | _ => first | (cases ha; done) | exact hT.elim

/-- The types of a law's parameters. -/
def argsB (P : Program) : List PM → List TypeId → Bool
  | [], [] => true
  | .v τ :: l, T :: r => argB τ && tyB P τ T && argsB P l r
  | _, _ => false

def RngP : (ps : List PM) → prodP ps → Prop
  | [], _ => True
  | .v τ :: l, a => Rng τ a.1 ∧ RngP l a.2
  | .m _ :: l, a => RngP l a.2
  | .o _ :: l, a => RngP l a.2

def repl {α : Type} : List α → List (List Nat)
  | [] => []
  | _ :: l => [] :: repl l
theorem repl_flatten {α : Type} : ∀ l : List α, (repl l).flatten = []
  | [] => rfl
  | _ :: l => by simp only [repl, List.flatten_cons, repl_flatten l, List.nil_append]

theorem args_rep : ∀ {ps : List PM} {Ts : List TypeId} {base : Nat} {vs : List Value} {ds : List (DataW H)} {p : List MemPlace}, argsB P ps Ts = true →
    DataW.TrodAll enc P w 0 (fun _ => true) true Ts vs ds p → (∀ (j : Nat) t v, Ts[j]? = some t → vs[j]? = some v → Value.okWide P w .any base t v) →
    ∃ a : prodP ps, RngP ps a ∧ ∀ {r : Type} (b : outP ps r), all3 (ArgH (fun b => b < w.heap.size) (fun _ => False) w) (mkA ps a b) vs (repl vs)
  | [], [], base, vs, ds, p, _, ht, _ => by
      cases vs <;> cases ds <;> first | exact ⟨(), trivial, fun _ => trivial⟩ | exact ht.elim
  | .v τ :: l, T :: r, base, vs, ds, p, hb, ht, hv => by
      simp only [argsB, Bool.and_eq_true] at hb
      obtain ⟨⟨b1, b2⟩, b3⟩ := hb
      obtain ⟨v, vs', d, ds', p1, p2, rfl, rfl, rfl, h1, h2⟩ := Go.ChangeShapes.trodAll_cons ht
      obtain ⟨fuel, h1⟩ := h1
      have hT := tyB.ok b2
      obtain ⟨y, hy, hr⟩ := trod_rep b1 hT h1
      obtain ⟨a, ha, hall⟩ := args_rep b3 h2 (fun j t v' ht' hv' => hv (j + 1) t v' (by simpa using ht') (by simpa using hv'))
      refine ⟨(y, a), ⟨hr, ha⟩, fun b => ⟨⟨rfl, v.cells.toList, okWide_regV b1 hT (hv 0 T v rfl rfl), ?_⟩, hall b⟩⟩
      exact hy.mono (fun m b hb => ⟨by cases m with
        | imm => exact hb
        | bor => exact .inl hb, Sm.refl _ _⟩) (by simp)
  | [], _ :: _, _, _, _, _, h, _, _ => by cases h
  | .v _ :: _, [], _, _, _, _, h, _, _ => by cases h
  | .m _ :: _, _, _, _, _, _, h, _, _ => by cases h
  | .o _ :: _, _, _, _, _, _, h, _, _ => by cases h

theorem trodAll_stays {P : Program} (hlo : laidOutB P = true) {W W' : World} {sp' : Nat → Bool} : ∀ {Ts : List TypeId} {vs : List Value} {ds : List (DataW H)} {p : List MemPlace}, (∀ t ∈ Ts, P.readableRec t = true ∧ t < P.types.size) →
    DataW.TrodAll enc P W 0 (fun _ => true) true Ts vs ds p → (∀ x ∈ p, W.sameAt W' x) → (∀ x ∈ p, sp' x.block = true) → DataW.TrodAll enc P W' 0 sp' true Ts vs ds p
  | [], vs, ds, p, _, h, _, _ => by cases vs <;> cases ds <;> first | exact h | exact h.elim
  | T :: Ts, vs, ds, p, hr, h, hs, hsp => by
      obtain ⟨v, vs', d, ds', p1, p2, rfl, rfl, rfl, h1, h2⟩ := Go.ChangeShapes.trodAll_cons h
      obtain ⟨r1, r2⟩ := hr T (by simp)
      exact ⟨p1, p2, Go.WideElems.Trod_stays hlo r1 r2 h1 (fun x hx => hs x (by simp [hx])) (fun x hx => hsp x (by simp [hx])),
        trodAll_stays hlo (fun t ht => hr t (by simp [ht])) h2 (fun x hx => hs x (by simp [hx])) (fun x hx => hsp x (by simp [hx])), rfl⟩

/-- A law that answers true. -/
theorem law_post {E : Env} {F : Fun} {fn : Func} {s : ChangeSpec} {T : TypeId} (hF : OkFun E F) (hlo : laidOutB E.P = true) (hrd : (fn.params.toList.all fun t => E.P.readableRec t && Nat.blt t E.P.types.size) = true)
    (hps : argsB E.P F.ps fn.params.toList = true) (_hrs : F.rs = [.bool]) (hT : fn.resultTypes = #[T]) (hb : E.P.underlying T = some .bool) (hvars : s.vars = [])
    (hspec : ∀ ds : List (DataW H), ds.length = fn.params.toList.length → s.fn H ds = ⟨[.lit (.bool true)], ds, []⟩)
    (hsem : ∀ a, RngP F.ps a → ∃ b, F.sem a = some b ∧ mkR F.rs (outR F.ps b) = [⟨.bool, true⟩]) {apart fresh handsOn again : Bool} {W : World} {base : Nat} {args : Array Value} {ds gs : List (DataW H)} {before : List MemPlace}
    (hval : ∀ (j : Nat) t v, fn.params[j]? = some t → args[j]? = some v → Value.okWide E.P W .any base t v) (hW : DataW.Whole enc E.P fn.params.toList s.vars apart W args.toList ds gs before) :
    Calls E.P F.f args W fun e W' => ∃ v, e = .returned v ∧ s.post enc E.P fn apart fresh handsOn again W args v W' := by
  have hW0 := hW
  obtain ⟨p, q, hA, hV, hpq, hfz, hnd⟩ := hW
  rw [hvars] at hV
  have hgq : gs = [] ∧ q = [] := by cases gs with
    | nil => exact ⟨rfl, hV⟩
    | cons => exact hV.elim
  obtain ⟨rfl, rfl⟩ := hgq
  rw [List.append_nil] at hpq
  subst hpq
  obtain ⟨a, hra, hall⟩ := args_rep (w := W) (base := base) hps hA (fun j t v ht hv => hval j t v (by simpa using ht) (by simpa using hv))
  obtain ⟨b, hab, hres⟩ := hsem a hra
  have hlen : ∀ {Ts : List TypeId} {vs : List Value} {ds : List (DataW H)} {p : List MemPlace}, DataW.TrodAll enc E.P W 0 (fun _ => true) true Ts vs ds p → ds.length = Ts.length := by
    intro Ts
    induction Ts with
    | nil => intro vs ds p h; cases vs <;> cases ds <;> first | rfl | exact h.elim
    | cons T Ts ih =>
      intro vs ds p h
      obtain ⟨v, vs', d, ds', p1, p2, rfl, rfl, rfl, h1, h2⟩ := Go.ChangeShapes.trodAll_cons h
      simp [ih h2]
  have hfn : s.fn H (ds ++ []) = ⟨[.lit (.bool true)], ds, []⟩ := by rw [List.append_nil]; exact hspec ds (hlen hA)
  have hlt := hW0.lt
  have hc := hF.2 a b hab W (fun b => b < W.heap.size) (fun _ => False) args.toList (repl args.toList) (fun b h => h.elim id (fun h => h.elim)) (hall b) (by rw [repl_flatten]; exact List.nodup_nil) (by rw [repl_flatten]; simp)
  rw [Array.toArray_toList] at hc
  refine hc.mono ?_
  rintro e W' ⟨I', gs', hs', rv, rfl, hp⟩
  refine ⟨_, rfl, ?_⟩
  -- the result
  have hrv : retV rv = .bool true := by
    have := hp.res
    rw [hres] at this
    cases rv with
    | nil => cases hs' <;> exact this.elim
    | cons v rv =>
      cases hs' with
      | nil => exact this.elim
      | cons h0 hs' =>
        obtain ⟨⟨cs, hv, _, rfl⟩, hrest⟩ := this
        cases rv with
        | nil => exact hv
        | cons => cases hs' <;> exact hrest.elim
  have hheap : ∀ b, b < W.heap.size → W'.heap[b]? = W.heap[b]? := fun b hb => hp.heap b hb (by rw [repl_flatten]; simp)
  have hsame : ∀ x ∈ before, W.sameAt W' x := fun x hx => by
    have := hheap x.block (hlt x hx)
    cases x with
    | cell b off => show W'.cell? _ = W.cell? _; unfold World.cell?; rw [show W'.heap[b]? = W.heap[b]? from this]
    | map b => exact this
  have hfro : ∀ b off, MemPlace.cell b off ∈ before → W'.frozen? ⟨b, off, none⟩ = W.frozen? ⟨b, off, none⟩ := fun b off hx => by
    unfold World.frozen?
    rw [show W'.heap[b]? = W.heap[b]? from hheap b (hlt _ hx)]
  rw [hrv]
  have hrd' : ∀ t ∈ fn.params.toList, E.P.readableRec t = true ∧ t < E.P.types.size := fun t ht => by
    have := List.all_eq_true.1 hrd t ht
    simp only [Bool.and_eq_true] at this
    exact ⟨this.1, Nat.le_of_ble_eq_true this.2⟩
  have hargs : ∀ sp : Nat → Bool, (∀ x ∈ before, sp x.block = true) → DataW.TrodAll enc E.P W' 0 sp true fn.params.toList args.toList (s.fn H (ds ++ [])).args before := fun sp hsp => by
    rw [hfn]
    exact trodAll_stays hlo hrd' hA hsame hsp
  have hresT : ∀ (b : Nat) (sp : Nat → Bool) (hd : Bool), DataW.TrodAll enc E.P W' b sp hd fn.resultTypes.toList ((Value.bool true).resultList fn.resultTypes.size) (s.fn H (ds ++ [])).results [] := fun b sp hd => by
    rw [hfn, hT]
    exact Go.ChangeShapes.trodAll_mk1 ⟨1, by unfold DataW.trod; rw [hb]; rfl⟩
  have hvarsT : ∀ sp : Nat → Bool, DataW.TrodVars enc E.P W' sp s.vars (s.fn H (ds ++ [])).vars [] := fun sp => by
    rw [hfn, hvars]; rfl
  have hok : ∀ (j : Nat) (t : TypeId) (r : Value), fn.resultTypes[j]? = some t → ((Value.bool true).resultList fn.resultTypes.size)[j]? = some r → Value.okWide E.P W' .any 0 t r :=
    Go.RowKit.ok_one hT rfl (Go.RowKit.okWide_bool_mk hb true)
  have hold : ∀ x ∈ before, (fun b => decide (b < W.heap.size)) x.block = true := fun x hx => by simpa using hlt x hx
  have hk : W.keptBut W' (fun _ => False) := by
    refine ⟨hp.os, hp.output, fun i hi => ?_⟩
    rw [hheap i hi]
    cases W.heap[i]? with
    | none => rfl
    | some o => cases o with
      | cells c t f => exact ⟨rfl, rfl, rfl, fun _ _ => rfl⟩
      | map es c => exact .inr ⟨rfl, rfl⟩
      | _ => rfl
  refine ⟨ds, [], before, [], before, [], hW0, hresT _ _ _, hargs _ hold, hvarsT _, World.keptBut_mono (fun _ h => h.elim) hk, fun _ => ?_⟩
  refine ⟨hok, _, _, ([] ++ before) ++ [], ⟨[] ++ before, [], Go.ChangeShapes.trodAll_append (hargs _ (fun _ _ => rfl)) (hresT _ _ _), hvarsT _, rfl, ?_, ?_⟩, ?_⟩
  · intro b off hp
    have hp : MemPlace.cell b off ∈ before := by simpa using hp
    rw [hfro b off hp]
    exact hfz b off hp
  · intro ha
    simpa using hnd ha
  · intro x hx _
    simpa using hx
end
end Go.Fw
