/-
  The framework, part 7: operations that make memory, and the small ones.
-/
import Derived.Test.YtlalecmgnaoiiaaFw6
namespace Go.Fw

/-- A constant as a value of a type. -/
def cvC : (τ : Ty) → List Value → Option τ.den
  | .int k, cs => match cs with
    | [.int k' n] => if k = k' then some n else none
    | _ => none
  | .bool, cs => match cs with
    | [.bool b] => some b
    | _ => none
  | .str, cs => match cs with
    | [.string s] => some s
    | _ => none
  | .slc _ _, cs => match cs with
    | [.slice none 0 0] => some []
    | _ => none
  | .osl _, cs => match cs with
    | [.slice none 0 0] => some []
    | _ => none
  | .ptr _ _, cs => match cs with
    | [.pointer none] => some none
    | _ => none
  | .st t, cs => cvC t cs
  | .pr a b, cs => match cvC a (cs.take a.size), cvC b (cs.drop a.size) with
    | some x, some y => some (x, y)
    | _, _ => none
  | .nil, cs => match cs with
    | [] => some ()
    | _ => none
  | .optr _, _ => none
  | .blk, _ => none

theorem cvC_rep {M : Md → Nat → Prop} {w : World} : ∀ {τ : Ty} {cs : List Value} {x : τ.den}, cvC τ cs = some x → Rep M w τ cs x []
  | .int k, cs, x, h => by
      simp only [cvC] at h
      split at h
      · split at h
        · rename_i hk; cases h; subst hk; exact ⟨rfl, rfl⟩
        · cases h
      · cases h
  | .bool, cs, x, h => by
      simp only [cvC] at h
      split at h <;> cases h
      exact ⟨rfl, rfl⟩
  | .str, cs, x, h => by
      simp only [cvC] at h
      split at h <;> cases h
      exact ⟨rfl, rfl⟩
  | .slc _ _, cs, x, h => by
      simp only [cvC] at h
      split at h <;> cases h
      exact ⟨rfl, none, 0, rfl, Nat.le_refl _, fun _ => rfl, .inl rfl⟩
  | .osl _, cs, x, h => by
      simp only [cvC] at h
      split at h <;> cases h
      exact ⟨none, 0, rfl, .inl ⟨rfl, rfl, rfl, rfl⟩⟩
  | .ptr _ _, cs, x, h => by
      simp only [cvC] at h
      split at h <;> cases h
      exact ⟨rfl, rfl⟩
  | .st t, cs, x, h => cvC_rep (τ := t) (by simp only [cvC] at h; exact h)
  | .pr a b, cs, x, h => by
      simp only [cvC] at h
      split at h
      · rename_i x y hx hy
        cases h
        exact ⟨[], [], rfl, cvC_rep (τ := a) hx, cvC_rep (τ := b) hy⟩
      · cases h
  | .nil, cs, x, h => by
      simp only [cvC] at h
      split at h <;> cases h
      exact ⟨rfl, rfl⟩
  | .optr _, cs, x, h => by simp only [cvC] at h; cases h
  | .blk, cs, x, h => by simp only [cvC] at h; cases h

theorem foldl_set (off : Nat) : ∀ (l : List Value) (k : Nat) (cs : Array Value),
    let r := (l.zipIdx k).foldl (fun cs (q : Value × Nat) => cs.setIfInBounds (off + q.2) q.1) cs
    r.size = cs.size ∧ (∀ j, j < off + k ∨ off + k + l.length ≤ j → r[j]? = cs[j]?) ∧ (off + k + l.length ≤ cs.size → ∀ j v, l[j]? = some v → r[off + k + j]? = some v)
  | [], k, cs => ⟨rfl, fun _ _ => rfl, fun _ j v h => by simp at h⟩
  | x :: l, k, cs => by
      obtain ⟨h1, h2, h3⟩ := foldl_set off l (k + 1) (cs.setIfInBounds (off + k) x)
      simp only [List.zipIdx_cons, List.foldl_cons]
      refine ⟨by rw [h1]; simp, fun j hj => ?_, fun hs j v hv => ?_⟩
      · simp only [List.length_cons] at hj
        rw [h2 j (by omega), Array.getElem?_setIfInBounds_ne (by omega)]
      · simp only [List.length_cons] at hs
        cases j with
        | zero =>
          simp only [List.getElem?_cons_zero, Option.some.injEq] at hv
          subst hv
          rw [Nat.add_zero, h2 _ (by omega)]
          have : off + k < cs.size := by omega
          simp [this]
        | succ j =>
          simp only [List.getElem?_cons_succ] at hv
          have := h3 (by simp; omega) j v hv
          rwa [show off + (k + 1) + j = off + k + (j + 1) by omega] at this

/-- Parts are laid at their places. -/
theorem fill_ok (place : Nat → Option (Nat × Nat)) : ∀ (parts : List (Nat × Value)) (cells : Array Value),
    (∀ q ∈ parts, ∃ off s, place q.1 = some (off, s) ∧ q.2.cells.size = s ∧ off + s ≤ cells.size) →
    (parts.Pairwise fun q r => ∀ o s o' s', place q.1 = some (o, s) → place r.1 = some (o', s') → o + s ≤ o' ∨ o' + s' ≤ o) →
    ∃ r, Instr.fill place cells parts = some r ∧ r.size = cells.size ∧
      (∀ j, (∀ q ∈ parts, ∀ o s, place q.1 = some (o, s) → j < o ∨ o + s ≤ j) → r[j]? = cells[j]?) ∧
      (∀ q ∈ parts, ∀ o s, place q.1 = some (o, s) → ∀ j v, q.2.cells[j]? = some v → r[o + j]? = some v)
  | [], cells, _, _ => ⟨cells, rfl, rfl, fun _ _ => rfl, fun q hq => by cases hq⟩
  | (i, v) :: parts, cells, h1, h2 => by
      obtain ⟨off, s, p1, p2, p3⟩ := h1 (i, v) (by simp)
      simp only at p1 p2
      rw [List.pairwise_cons] at h2
      have hz : v.cells.zipIdx.foldl (fun cs (q : Value × Nat) => cs.setIfInBounds (off + q.2) q.1) cells = (v.cells.toList.zipIdx 0).foldl (fun cs (q : Value × Nat) => cs.setIfInBounds (off + q.2) q.1) cells := by
        rw [← Array.foldl_toList, Array.toList_zipIdx]
      obtain ⟨f1, f2, f3⟩ := foldl_set off v.cells.toList 0 cells
      rw [← hz] at f1 f2 f3
      simp only [Array.length_toList] at f2 f3
      generalize hc : v.cells.zipIdx.foldl (fun cs (q : Value × Nat) => cs.setIfInBounds (off + q.2) q.1) cells = cells1 at f1 f2 f3
      obtain ⟨r, r1, r2, r3, r4⟩ := fill_ok place parts cells1 (fun q hq => by
        obtain ⟨o', s', g1, g2, g3⟩ := h1 q (List.mem_cons_of_mem _ hq)
        exact ⟨o', s', g1, g2, by rw [f1]; exact g3⟩) h2.2
      refine ⟨r, ?_, by rw [r2, f1], fun j hj => ?_, fun q hq o' s' hp j u hu => ?_⟩
      · have hb : (decide (v.cells.size ≠ s) || decide (off + v.cells.size > cells.size)) = false := by simp; omega
        simp only [Instr.fill, p1, hb]
        rw [show (v.cells.zipIdx.foldl (fun cs x => match x with | (c, j) => cs.setIfInBounds (off + j) c) cells) = cells1 from hc]
        simpa using r1
      · rw [r3 j (fun q hq => hj q (List.mem_cons_of_mem _ hq)), f2 j (by have := hj (i, v) (by simp) off s p1; omega)]
      · rcases List.mem_cons.1 hq with rfl | hq
        · simp only at hp hu
          rw [p1] at hp
          cases hp
          have hjl : j < v.cells.size := (Array.getElem?_eq_some_iff.1 hu).1
          rw [r3 (off + j) (fun q hq o' s' hp' => by
            have := h2.1 q hq off s o' s' p1 hp'
            omega)]
          exact f3 (by omega) j u (by simpa using hu)
        · exact r4 q hq o' s' hp j u hu

section
variable {E : Env} {C : Ctx} {st : St} {a : Act} {w : World} {I : Nat → Prop} {rt : Nat → List Value} {fp : Nat → List Nat} {o : Oper} {Q : AV → List (Nat × Tree) → Prop}

theorem At.alloc {w : World} {cells : Array Value} {T : TypeId} {o : Nat} {cs : List Value} (h : ∀ j v, cs[j]? = some v → cells[o + j]? = some v) : At (w.alloc (.cells cells T)) w.heap.size o cs := fun j v hj => by
  rw [World.cell?_alloc_new]; exact h j v hj
theorem Fr.alloc {w : World} {cells : Array Value} {T : TypeId} {lo hi : Nat} (h : hi ≤ cells.size) : Fr (w.alloc (.cells cells T)) w.heap.size lo hi := fun j _ h2 => by
  rw [World.cell?_alloc_new, World.frozen?_alloc_new]
  exact ⟨by simp; omega, rfl⟩

/-- A new tree in a new block. -/
theorem Yields.new {d : Nat} {t : Tree} {v : Value} {cs : List Value} {f : List Nat} {cells : Array Value} {T : TypeId} (hn : lk st.h d = none) (hR : RelAt C st a.tmps w I rt fp)
    (hr : (execOp a.eval o).run E.P w = .ok (.value v) (w.alloc (.cells cells T))) (hv : v = regV t.1 cs) (hrep : Rep (md I C.B) (w.alloc (.cells cells T)) t.1 cs t.2 f) (hf : ∀ b ∈ f, b = w.heap.size) (hnd : f.Nodup)
    (hq : Q (.ref d []) [(d, t)]) : Yields E C st a w I rt fp o Q := by
  refine ⟨v, _, I, fun _ => cs, fun _ => f, .ref d [], [(d, t)], hr, .alloc w _, fun _ h => h, fun _ h => .inl h, .one hn hrep hnd (fun b hb => ?_), ?_, hq⟩
  · rw [hf b hb]
    exact ⟨Nat.le_refl _, by simp, fun h => by have := hR.ib _ (.inl h); omega⟩
  · rw [hv]
    have hl : lk ([(d, t)] ++ st.h) d = some t := by rw [List.singleton_append, lk_cons, if_pos rfl]
    refine .ref (t := t) (τ' := t.1) (loc := none) hl ?_
    have : mixv [(d, t)] (fun _ => cs) rt d = cs := by simp [mixv, lk_cons]
    rw [this]
    exact Nav.here

/-- make([]T, n, c): the type of the new tree is given. -/
def makeF (tt : List (TypeId × Ty)) (an : List (Nat × Ty)) (h : List (Nat × Tree)) (d : Nat) (T : TypeId) (l c : AV) : Res :=
  match isSlcT tt T, lk an d, lk h d with
  | some u, some (.osl t), none => match zeroD t, l, c with
    | some z, .val (.int _) l, .val (.int _) c => bif sameLay u t && Nat.ble t.size 2000 then
        .part (Nat × Nat) (fun q => l = (q.1 : Int) ∧ c = (q.2 : Int) ∧ q.1 ≤ q.2 ∧ q.2 ≤ lim) (fun q => (.ref d [], [(d, ⟨.osl t, List.replicate q.1 z⟩)])) else .bad
    | _, _, _ => .bad
  | _, _, _ => .bad

theorem madeCells_get (z : Array Value) (n i j : Nat) (v : Value) (_hz : 0 < z.size) (hv : z[j]? = some v) (hi : i < n) : (madeCells z (n * z.size))[i * z.size + j]? = some v := by
  have hj : j < z.size := (Array.getElem?_eq_some_iff.1 hv).1
  have h1 : (i + 1) * z.size ≤ n * z.size := Nat.mul_le_mul_right _ hi
  rw [Nat.add_mul, Nat.one_mul] at h1
  have h2 : (i * z.size + j) % z.size = j := by
    rw [Nat.add_comm, Nat.add_mul_mod_self_right, Nat.mod_eq_of_lt hj]
  simp only [madeCells, Array.getElem?_map, Array.getElem?_range]
  rw [if_pos (by omega)]
  simp only [Option.map_some, h2]
  rw [← hv, getElem!_pos z j hj, Array.getElem?_eq_getElem hj]

theorem makeF_sound (hR : RelAt C st a.tmps w I rt fp) {an : List (Nat × Ty)} {d : Nat} {T : TypeId} {l c : Operand} (ho : o.op = .makeSlice T l c) (h : (makeF E.tt an st.h d T (opA st.g l) (opA st.g c)).K Q) :
    Yields E C st a w I rt fp o Q := by
  have hl := hR.opA l
  have hc := hR.opA c
  unfold makeF at h
  split at h
  case h_2 => exact h.elim
  rename_i u t hT han hd
  split at h
  case h_2 => exact h.elim
  rename_i z kl n kc m hz el ec
  cases hb : (sameLay u t && Nat.ble t.size 2000) with
  | false => rw [hb] at h; exact h.elim
  | true =>
    rw [hb] at h
    simp only [Bool.and_eq_true] at hb
    obtain ⟨⟨n', m'⟩, ⟨rfl, rfl, h1, h2⟩, h⟩ := h
    simp only at h1 h2 h
    have hsz := Nat.le_of_ble_eq_true hb.2
    rw [el] at hl; rw [ec] at hc
    generalize hvl : a.eval l = vl at hl
    generalize hvc : a.eval c = vc at hc
    cases hl with | val r1 => cases hc with | val r2 =>
    obtain ⟨_, rfl⟩ := r1
    obtain ⟨_, rfl⟩ := r2
    obtain ⟨j, S, _, h5, h6⟩ := isSlcT.ok hT
    have h6' := h6.lay hb.1
    obtain ⟨i, zv, q1, q2, q3, q4⟩ := zero_rep h6' hz
    obtain ⟨i', _, q5, _⟩ := h6'.info
    have e0 := q5.info
    rw [q1] at e0; cases e0
    have hzl : zv.cells.size = t.size := by have := (q4 (md I C.B) w).len; simpa using this
    have hbytes : (i.bytes : Int) * (m' : Int) ≤ 281474976710656 := by
      have : i.bytes * m' ≤ 48000 * lim := Nat.mul_le_mul (by have := q5.bytes; omega) h2
      have h3 : ((i.bytes * m' : Nat) : Int) ≤ 281474976710656 := by unfold lim at this; omega
      rwa [Int.natCast_mul] at h3
    have hrun := run_make (P := E.P) w T S i zv h5 q1 q2 kl kc (n' : Int) (m' : Int) (by omega) (by omega) hbytes (by unfold lim at h2; omega)
    simp only [Int.toNat_natCast, q5.size] at hrun
    rw [← hzl] at hrun
    refine .new (d := d) (cells := madeCells zv.cells (m' * zv.cells.size)) (T := S) (cs := [.slice (some ⟨w.heap.size, 0, none⟩) n' m']) (f := [w.heap.size]) hd hR ?_ rfl ?_ (by simp) (by simp) h
    · simp [execOp, ho, hvl, hvc, regV, hrun]
    · refine ⟨some ⟨w.heap.size, 0, none⟩, m', by simp, .inr ⟨w.heap.size, 0, List.replicate n' [], rfl, by simp, by simp, by simpa using h1, Fr.alloc (by rw [size_madeCells, hzl]; omega), fun k x g hx hg => ?_⟩⟩
      have hk : k < n' := by have := (List.getElem?_eq_some_iff.1 hx).1; simpa using this
      obtain rfl : z = x := by rw [List.getElem?_replicate, if_pos hk] at hx; exact Option.some.inj hx
      obtain rfl : [] = g := by rw [List.getElem?_replicate, if_pos hk] at hg; exact Option.some.inj hg
      refine ⟨zv.cells.toList, by simpa using hzl, At.alloc (fun j v hj => ?_), q4 _ _⟩
      rw [Nat.zero_add, ← hzl]
      exact madeCells_get _ _ _ _ _ (by rw [hzl]; exact h6'.pos) (by simpa using hj) (by omega)

/-- A new variable, zero. -/
def allocF (tt : List (TypeId × Ty)) (an : List (Nat × Ty)) (h : List (Nat × Tree)) (d : Nat) (T : TypeId) : Res :=
  match lk tt T, lk an d, lk h d with
  | some u, some t, none => match zeroD t with
    | some z => bif sameLay u t then .tot (.ref d []) [(d, ⟨.optr t, z⟩)] else .bad
    | none => .bad
  | _, _, _ => .bad

/-- A pointer to a new block that holds a value. -/
theorem Yields.box {d : Nat} {τ : Ty} {x : τ.den} {cs : List Value} {T : TypeId} (hn : lk st.h d = none) (hR : RelAt C st a.tmps w I rt fp) (_hT : TyF E.P τ T)
    (hr : (execOp a.eval o).run E.P w = .ok (.value (.pointer (some ⟨w.heap.size, 0, none⟩))) (w.alloc (.cells cs.toArray T))) (hrep : ∀ w', (∀ m b, md I C.B m b → Sm w w' b) → Rep (md I C.B) w' τ cs x [])
    (hq : Q (.ref d []) [(d, ⟨.optr τ, x⟩)]) : Yields E C st a w I rt fp o Q := by
  have hM : ∀ m b, md I C.B m b → Sm w (w.alloc (.cells cs.toArray T)) b := fun m b hb => .of_heap ((Grew.alloc w _).heap b (hR.ib b (md_or hb)))
  have hr' := hrep _ hM
  have hlen := hr'.len
  refine .new (d := d) (t := ⟨.optr τ, x⟩) (cs := [.pointer (some ⟨w.heap.size, 0, none⟩)]) (f := [w.heap.size]) hn hR hr rfl
    ⟨w.heap.size, 0, [], cs, rfl, rfl, hlen, At.alloc (fun j v hj => by simpa using hj), Fr.alloc (by simp [hlen]), hr'⟩ (by simp) (by simp) hq

theorem allocF_sound (hR : RelAt C st a.tmps w I rt fp) {an : List (Nat × Ty)} {d : Nat} {T : TypeId} (ho : o.op = .alloc T) (h : (allocF E.tt an st.h d T).K Q) : Yields E C st a w I rt fp o Q := by
  unfold allocF at h
  split at h
  case h_2 => exact h.elim
  rename_i u t hT han hd
  split at h
  case h_2 => exact h.elim
  rename_i z hz
  cases hb : sameLay u t with
  | false => rw [hb] at h; exact h.elim
  | true =>
    rw [hb] at h
    have hf := (E.ok T u hT).lay hb
    obtain ⟨i, zv, q1, q2, q3, q4⟩ := zero_rep hf hz
    refine .box (cs := zv.cells.toList) hd hR hf ?_ (fun w' _ => q4 _ _) h
    simp [execOp, ho, Instr.alloc, zeroValue, typeInfo, q1, q2, newVar, newRow]

def boxF (tt : List (TypeId × Ty)) (h : List (Nat × Tree)) (d : Nat) (T : TypeId) (x : AV) : Res :=
  match lk tt T, lk h d with
  | some u, none => match x with
    | .val τ x => bif sameLay u τ then .tot (.ref d []) [(d, ⟨.optr τ, x⟩)] else .bad
    | _ => .bad
  | _, _ => .bad

theorem boxF_sound (hR : RelAt C st a.tmps w I rt fp) {d : Nat} {T : TypeId} {x : Operand} (ho : o.op = .box T x) (h : (boxF E.tt st.h d T (opA st.g x)).K Q) : Yields E C st a w I rt fp o Q := by
  have hx := hR.opA x
  unfold boxF at h
  split at h
  case h_2 => exact h.elim
  rename_i u hT hd
  split at h
  case h_2 => exact h.elim
  rename_i τ y ex
  cases hb : sameLay u τ with
  | false => rw [hb] at h; exact h.elim
  | true =>
    rw [hb] at h
    rw [ex] at hx
    generalize hv : a.eval x = v at hx
    cases hx with | val r =>
    rename_i cs
    have hf := (E.ok T u hT).lay hb
    refine .box (cs := cs) hd hR hf ?_ (fun w' hM => r.mono (fun m b hb => ⟨hb, hM m b hb⟩) (by simp)) h
    simp [execOp, ho, hv, Instr.box, newVar, newRow, regV_cells hf r.len r.one]

/-- A value, at a type. -/
def coe (t : Ty) (x : AV) : Option t.den :=
  match x with
  | .val τ x => if h : τ = t then some (h ▸ x) else none
  | .cv v => cvC t v.cells.toList
  | _ => none

def coes (t : Ty) : List AV → Option (List t.den)
  | [] => some []
  | x :: r => match coe t x, coes t r with
    | some y, some l => some (y :: l)
    | _, _ => none

theorem coe_rep {M : Md → Nat → Prop} {h : List (Nat × Tree)} {t : Ty} {T : TypeId} (hT : TyF E.P t T) {x : AV} {v : Value} (hx : AVok M w h rt fp x v) {y : t.den} (hc : coe t x = some y) : Rep M w t v.cells.toList y [] := by
  unfold coe at hc
  split at hc
  · rename_i τ z
    split at hc
    · rename_i e
      subst e
      cases hc
      cases hx with | val r =>
      rw [regV_cells hT r.len r.one]
      exact r
    · cases hc
  · cases hx
    exact cvC_rep hc
  · cases hc

def seqFrom : List (Nat × Operand) → Nat → Bool
  | [], _ => true
  | q :: r, k => Nat.beq q.1 k && seqFrom r (k + 1)

/-- A slice literal whose elements are values. -/
def bslF (tt : List (TypeId × Ty)) (an : List (Nat × Ty)) (h : List (Nat × Tree)) (g : Operand → AV) (d : Nat) (T : TypeId) (n : Nat) (parts : List (Nat × Operand)) : Res :=
  match isSlcT tt T, lk h d with
  | some u, none =>
    let t := match lk an d with | some (.osl t) => t | _ => u
    bif sameLay u t && Nat.ble t.size 2000 && Nat.ble n 1000 && seqFrom parts 0 && Nat.beq parts.length n then
      match coes t (parts.map fun q => g q.2) with
      | some xs => .tot (.ref d []) [(d, ⟨.osl t, xs⟩)]
      | none => .bad
    else .bad
  | _, _ => .bad

theorem coes_get {t : Ty} : ∀ {l : List AV} {xs : List t.den}, coes t l = some xs → xs.length = l.length ∧ ∀ (i : Nat) (x : t.den), xs[i]? = some x → ∃ y : AV, l[i]? = some y ∧ coe t y = some x
  | [], xs, h => by cases h; exact ⟨rfl, fun i x h => by simp at h⟩
  | y :: l, xs, h => by
      simp only [coes] at h
      split at h
      · rename_i z r hz hr
        cases h
        obtain ⟨h1, h2⟩ := coes_get hr
        refine ⟨by simp [h1], fun i x hi => ?_⟩
        cases i with
        | zero => simp only [List.getElem?_cons_zero, Option.some.injEq] at hi; subst hi; exact ⟨y, rfl, hz⟩
        | succ i => simpa using h2 i x (by simpa using hi)
      · cases h

theorem seqFrom_get : ∀ {l : List (Nat × Operand)} {k : Nat}, seqFrom l k = true → ∀ (i : Nat) (q : Nat × Operand), l[i]? = some q → q.1 = k + i
  | [], _, _, i, q, h => by simp at h
  | x :: l, k, h, i, q, hi => by
      simp only [seqFrom, Bool.and_eq_true] at h
      cases i with
      | zero => simp only [List.getElem?_cons_zero, Option.some.injEq] at hi; subst hi; exact Nat.eq_of_beq_eq_true h.1
      | succ i => have := seqFrom_get h.2 i q (by simpa using hi); omega

theorem bslF_sound (hR : RelAt C st a.tmps w I rt fp) {an : List (Nat × Ty)} {d : Nat} {T : TypeId} {n : Nat} {parts : Array (Nat × Operand)} (ho : o.op = .buildSlice T n parts)
    (h : (bslF E.tt an st.h (opA st.g) d T n parts.toList).K Q) : Yields E C st a w I rt fp o Q := by
  unfold bslF at h
  split at h
  case h_2 => exact h.elim
  rename_i u hT hd
  generalize ht : (match lk an d with | some (.osl t) => t | _ => u) = t at h
  simp only at h
  cases hb : (sameLay u t && Nat.ble t.size 2000 && Nat.ble n 1000 && seqFrom parts.toList 0 && Nat.beq parts.toList.length n) with
  | false => rw [hb] at h; exact h.elim
  | true =>
    rw [hb] at h
    simp only [Bool.and_eq_true] at hb
    obtain ⟨⟨⟨⟨b1, b2⟩, b3⟩, b4⟩, b5⟩ := hb
    have b2 := Nat.le_of_ble_eq_true b2
    have b3 := Nat.le_of_ble_eq_true b3
    have b5 : parts.toList.length = n := Nat.eq_of_beq_eq_true b5
    simp only [cond_true] at h
    split at h
    case h_2 => exact h.elim
    rename_i xs hxs
    obtain ⟨j, S, _, h5, h6⟩ := isSlcT.ok hT
    have h6' := h6.lay b1
    obtain ⟨i, dd, q5, _⟩ := h6'.info
    have hpos := h6'.pos
    obtain ⟨c1, c2⟩ := coes_get hxs
    simp only [List.length_map] at c1
    have hxn : xs.length = n := by omega
    have hlen : n * t.size ≤ 16777216 := by
      have : n * t.size ≤ 1000 * 2000 := Nat.mul_le_mul b3 b2
      omega
    -- each element's cells
    have hel : ∀ (k : Nat) (q : Nat × Operand), parts.toList[k]? = some q → ∃ x : t.den, xs[k]? = some x ∧ Rep (md I C.B) w t (a.eval q.2).cells.toList x [] := by
      intro k q hk
      have hkl : k < xs.length := by have := (List.getElem?_eq_some_iff.1 hk).1; omega
      obtain ⟨y, e1, e2⟩ := c2 k xs[k] (by simp)
      rw [List.getElem?_map, hk] at e1
      simp only [Option.map_some, Option.some.injEq] at e1
      subst e1
      exact ⟨xs[k], by simp, coe_rep h6' (hR.opA q.2) e2⟩
    obtain ⟨iz, hiz0, hiz1⟩ : ∃ zc : Array Value, (n * t.size = 0 → zc = #[]) ∧ (n * t.size ≠ 0 → ∃ zz, (zeroValue S).run E.P w = .ok zz w ∧ zc = zz.cells) := by
      by_cases h0 : n * t.size = 0
      · exact ⟨#[], fun _ => rfl, fun h => absurd h0 h⟩
      · obtain ⟨zz, _, hzz⟩ := TyF.hasZero h6'
        exact ⟨zz.cells, fun h => absurd h h0, fun _ => ⟨zz, by simp [zeroValue, typeInfo, q5.info, hzz i q5.info], rfl⟩⟩
    obtain ⟨r, r1, r2, r3, r4⟩ := fill_ok (fun i => some (i * t.size, t.size)) (parts.toList.map fun q => (q.1, a.eval q.2)) ((Array.range (n * t.size)).map (iz[· % iz.size]!)) (by
      intro q hq
      obtain ⟨p, hp, rfl⟩ := List.mem_map.1 hq
      obtain ⟨k, hk, rfl⟩ := List.mem_iff_getElem.1 hp
      have hk' : parts.toList[k]? = some parts.toList[k] := by simp
      obtain ⟨x, _, hx⟩ := hel k _ hk'
      have e := seqFrom_get b4 k _ hk'
      have : (k + 1) * t.size ≤ n * t.size := Nat.mul_le_mul_right _ (by omega)
      rw [Nat.add_mul, Nat.one_mul] at this
      refine ⟨_, _, rfl, by have := hx.len; simpa using this, ?_⟩
      simp only [Array.size_map, Array.size_range]
      rw [e, Nat.zero_add]
      exact this) (by
      rw [List.pairwise_iff_getElem]
      intro k l hk hl hkl o1 s1 o2 s2 e1 e2
      simp only [List.getElem_map, Option.some.injEq, Prod.mk.injEq] at e1 e2
      simp only [List.length_map] at hk hl
      have f1 := seqFrom_get b4 k parts.toList[k] (by simp)
      have f2 := seqFrom_get b4 l parts.toList[l] (by simp)
      obtain ⟨rfl, rfl⟩ := e1
      obtain ⟨rfl, rfl⟩ := e2
      left
      rw [f1, f2]
      have : (0 + k + 1) * t.size ≤ (0 + l) * t.size := Nat.mul_le_mul_right _ (by omega)
      rw [Nat.add_mul, Nat.one_mul] at this
      exact this)
    have hrs : r.size = n * t.size := by rw [r2]; simp
    refine .new (d := d) (t := ⟨.osl t, xs⟩) (cells := r) (T := S) (cs := [.slice (some ⟨w.heap.size, 0, none⟩) n n]) (f := [w.heap.size]) hd hR ?_ rfl ?_ (by simp) (by simp) h
    · have hsz := h6'.sizeOf w
      have hnb : ¬ (16777216 < n * t.size) := by omega
      have hpm : (Array.map (fun x => (x.fst, a.eval x.snd)) parts).toList = parts.toList.map fun q => (q.1, a.eval q.2) := by simp
      simp only [execOp, ho, Instr.buildSlice, Sem.run_bind, run_underlying h5, Result.andThen_ok, hsz]
      rw [if_neg (by omega)]
      by_cases h0 : n * t.size = 0
      · rw [if_pos h0]
        obtain rfl := hiz0 h0
        rw [hpm]
        simp only [Sem.run_bind, Sem.run_pure, Result.andThen_ok, r1, newRow, newObj]
        rfl
      · rw [if_neg h0]
        obtain ⟨zz, hz1, rfl⟩ := hiz1 h0
        rw [hpm]
        simp only [Sem.run_bind, Sem.run_pure, Result.andThen_ok, hz1, r1, newRow, newObj]
        rfl
    · refine ⟨some ⟨w.heap.size, 0, none⟩, n, by rw [hxn], .inr ⟨w.heap.size, 0, List.replicate n [], rfl, by simp, by simp [hxn], (by show xs.length ≤ n; omega), Fr.alloc (by rw [hrs]; omega), fun k x g hx hg => ?_⟩⟩
      have hk : k < n := by have : k < xs.length := (List.getElem?_eq_some_iff.1 hx).1; omega
      obtain rfl : [] = g := by rw [List.getElem?_replicate, if_pos hk] at hg; exact Option.some.inj hg
      have hk' : parts.toList[k]? = some (parts.toList[k]'(by omega)) := by simp
      obtain ⟨x', hx', hrep⟩ := hel k _ hk'
      rw [hx] at hx'
      obtain rfl := Option.some.inj hx'
      refine ⟨_, hrep.len, At.alloc (fun j v hj => ?_), hrep.mono (fun m b hb => ⟨hb, .of_heap ((Grew.alloc w _).heap b (hR.ib b (md_or hb)))⟩) (by simp)⟩
      have := r4 (parts.toList[k].1, a.eval parts.toList[k].2) (List.mem_map.2 ⟨parts.toList[k], List.getElem_mem _, rfl⟩) _ _ rfl j v (by simpa using hj)
      have e := seqFrom_get b4 k _ hk'
      rw [e, Nat.zero_add] at this
      simpa using this
end
end Go.Fw
