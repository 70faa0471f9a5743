/-
  The framework, part 3: how the relation goes on: a temporary is put; new trees and new blocks come.
-/
import Derived.Test.YtlalecmgnaoiiaaFw2
namespace Go.Fw

def opA (g : List (Nat × AV)) : Operand → AV
  | .tmp t => gt g t
  | .const (.int k n) => .val (.int k) n
  | .const (.bool b) => .val .bool b
  | .const (.string s) => .val .str s
  | .const v => .cv v
  | .func f => .clo f []
  | .global _ => .dead

theorem AVok.int {M : Md → Nat → Prop} {w : World} {h : List (Nat × Tree)} {rt : Nat → List Value} {fp : Nat → List Nat} (k : IntKind) (n : Int) : AVok M w h rt fp (.val (.int k) n) (.int k n) :=
  .val (τ := .int k) (cs := [.int k n]) ⟨rfl, rfl⟩
theorem AVok.bool {M : Md → Nat → Prop} {w : World} {h : List (Nat × Tree)} {rt : Nat → List Value} {fp : Nat → List Nat} (b : Bool) : AVok M w h rt fp (.val .bool b) (.bool b) :=
  .val (τ := .bool) (cs := [.bool b]) ⟨rfl, rfl⟩
theorem AVok.str {M : Md → Nat → Prop} {w : World} {h : List (Nat × Tree)} {rt : Nat → List Value} {fp : Nat → List Nat} (s : ByteArray) : AVok M w h rt fp (.val .str s) (.string s) :=
  .val (τ := .str) (cs := [.string s]) ⟨rfl, rfl⟩

theorem RelAt.opA {C : Ctx} {st : St} {a : Act} {w : World} {I : Nat → Prop} {rt : Nat → List Value} {fp : Nat → List Nat} (h : RelAt C st a.tmps w I rt fp) (x : Operand) :
    AVok (md I C.B) w st.h rt fp (opA st.g x) (a.eval x) := by
  cases x with
  | tmp t => exact h.tmp t
  | const v =>
    cases v <;> simp only [Fw.opA, Act.eval]
    case int k n => exact .int k n
    case bool b => exact .bool b
    case string s => exact .str s
    all_goals exact .cv _
  | func f => exact .clo (vs := #[]) (by simp) (by simp)
  | global g => exact .dead _

theorem lk_append {α : Type} : ∀ (l r : List (Nat × α)) (n : Nat), lk (l ++ r) n = (lk l n).or (lk r n)
  | [], r, n => by simp [lk]
  | (k, v) :: l, r, n => by
    rw [List.cons_append, lk_cons, lk_cons, lk_append l r n]
    split <;> simp

theorem gt_cons (d : Nat) (av : AV) (g : List (Nat × AV)) (k : Nat) : gt ((d, av) :: g) k = if d = k then av else gt g k := by
  unfold gt
  rw [lk_cons]
  by_cases h : d = k <;> simp [h]

theorem RelAt.put {C : Ctx} {st : St} {tm : Array Value} {w : World} {I : Nat → Prop} {rt : Nat → List Value} {fp : Nat → List Nat} (h : RelAt C st tm w I rt fp) {d : Nat} (hd : C.ok d) {av : AV} {v : Value}
    (hv : AVok (md I C.B) w st.h rt fp av v) : RelAt C ⟨(d, av) :: st.g, st.h⟩ (tm.setIfInBounds d v) w I rt fp where
  n := by simpa using h.n
  i0 := h.i0
  i1 := h.i1
  ib := h.ib
  tree := h.tree
  dis := h.dis
  tmp := fun k => by
    show AVok _ _ _ _ _ (gt ((d, av) :: st.g) k) _
    unfold gt
    rw [lk_cons]
    have hs : d < tm.size := by rw [h.n]; exact hd.1
    by_cases hk : d = k
    · subst hk
      rw [if_pos rfl]
      have : (tm.setIfInBounds d v).getD d undef = v := by simp [Array.getD, hs]
      rw [this]
      exact hv
    · rw [if_neg hk]
      have : (tm.setIfInBounds d v).getD k undef = tm.getD k undef := by
        simp only [Array.getD_eq_getD_getElem?, Array.getElem?_setIfInBounds_ne hk]
      rw [this]
      exact h.tmp k
  frame := h.frame
  size := h.size
  os := h.os
  tape := h.tape
  output := h.output
  pin := fun k hk => by
    have : d ≠ k := fun e => hd.2 (e ▸ hk)
    rw [← h.pin k hk]
    simp only [Array.getD_eq_getD_getElem?, Array.getElem?_setIfInBounds_ne this]

/-- A temporary loses what is known of it. -/
theorem RelAt.any {C : Ctx} {st : St} {tm : Array Value} {w : World} {I : Nat → Prop} {rt : Nat → List Value} {fp : Nat → List Nat} (h : RelAt C st tm w I rt fp) {d : Nat} (hd : C.ok d) (v : Value) :
    RelAt C ⟨(d, .dead) :: st.g, st.h⟩ (tm.setIfInBounds d v) w I rt fp := h.put hd (.dead v)

structure NewOk (C : Ctx) (st : St) (w w' : World) (I' : Nat → Prop) (new : List (Nat × Tree)) (rtn : Nat → List Value) (fpn : Nat → List Nat) : Prop where
  tree : ∀ id t, lk new id = some t → lk st.h id = none ∧ Rep (md I' C.B) w' t.1 (rtn id) t.2 (fpn id) ∧ (fpn id).Nodup ∧ ∀ b ∈ fpn id, w.heap.size ≤ b ∧ b < w'.heap.size ∧ ¬ I' b
  dis : ∀ i j t u, lk new i = some t → lk new j = some u → i ≠ j → ∀ b ∈ fpn i, b ∉ fpn j

theorem NewOk.nil {C : Ctx} {st : St} {w w' : World} {I' : Nat → Prop} {rtn : Nat → List Value} {fpn : Nat → List Nat} : NewOk C st w w' I' [] rtn fpn :=
  ⟨(fun _ _ h => by cases h), (fun _ _ _ _ h => by cases h)⟩

theorem NewOk.one {C : Ctx} {st : St} {w w' : World} {I' : Nat → Prop} {id : Nat} {t : Tree} {cs : List Value} {f : List Nat} (hn : lk st.h id = none) (hr : Rep (md I' C.B) w' t.1 cs t.2 f) (hf : f.Nodup)
    (hb : ∀ b ∈ f, w.heap.size ≤ b ∧ b < w'.heap.size ∧ ¬ I' b) : NewOk C st w w' I' [(id, t)] (fun _ => cs) (fun _ => f) where
  tree := fun i u h => by
    rw [lk_cons] at h
    split at h
    · rename_i e; subst e; obtain rfl := Option.some.inj h; exact ⟨hn, hr, hf, hb⟩
    · cases h
  dis := fun i j t' u h1 h2 hij => by
    rw [lk_cons] at h1 h2
    split at h1
    · split at h2
      · rename_i e1 e2; exact absurd (e1.symm.trans e2) hij
      · cases h2
    · cases h1

def mixv (new : List (Nat × Tree)) {α : Type} (a b : Nat → α) : Nat → α := fun id => match lk new id with | some _ => a id | none => b id

theorem RelAt.ext {C : Ctx} {st : St} {tm : Array Value} {w w' : World} {I I' : Nat → Prop} {rt rtn : Nat → List Value} {fp fpn : Nat → List Nat} (h : RelAt C st tm w I rt fp) (hg : Grew w w')
    (hI : ∀ b, I b → I' b) (hI2 : ∀ b, I' b → I b ∨ (w.heap.size ≤ b ∧ b < w'.heap.size)) {new : List (Nat × Tree)} (hn : NewOk C st w w' I' new rtn fpn) :
    RelAt C ⟨st.g, new ++ st.h⟩ tm w' I' (mixv new rtn rt) (mixv new fpn fp) := by
  have hM : ∀ m b, md I C.B m b → md I' C.B m b ∧ Sm w w' b := fun m b hb => by
    refine ⟨?_, .of_heap (hg.heap b (h.ib b (md_or hb)))⟩
    cases m
    · exact hI b hb
    · exact hb.imp (hI b) id
  have hold : ∀ id t, lk st.h id = some t → lk (new ++ st.h) id = some t ∧ mixv new rtn rt id = rt id ∧ mixv new fpn fp id = fp id := fun id t ht => by
    have : lk new id = none := by
      cases hh : lk new id with
      | none => rfl
      | some u => have := (hn.tree id u hh).1; rw [ht] at this; cases this
    refine ⟨by rw [lk_append, this, ht]; rfl, by simp [mixv, this], by simp [mixv, this]⟩
  have hcase : ∀ id t, lk (new ++ st.h) id = some t → (lk new id = some t ∧ mixv new rtn rt id = rtn id ∧ mixv new fpn fp id = fpn id) ∨ (lk st.h id = some t ∧ mixv new rtn rt id = rt id ∧ mixv new fpn fp id = fp id) := fun id t ht => by
    rw [lk_append] at ht
    cases hh : lk new id with
    | none => rw [hh] at ht; exact .inr ⟨by simpa using ht, by simp [mixv, hh], by simp [mixv, hh]⟩
    | some u => rw [hh] at ht; exact .inl ⟨by simpa using ht, by simp [mixv, hh], by simp [mixv, hh]⟩
  have hbs : ∀ id t, lk st.h id = some t → ∀ b ∈ fp id, Sm w w' b := fun id t ht b hb => .of_heap (hg.heap b ((h.tree id t ht).2.2 b hb).2.2.1)
  refine { n := h.n, i0 := fun b hb => hI b (h.i0 b hb), i1 := ?_, ib := ?_, tree := ?_, dis := ?_, tmp := ?_, frame := ?_, size := Nat.le_trans h.size hg.size, os := hg.os.trans h.os, tape := hg.tape.trans h.tape, output := hg.output.trans h.output, pin := h.pin }
  · intro b hb
    rcases hI2 b hb with hb | ⟨hb, _⟩
    · exact h.i1 b hb
    · exact .inr (.inl (Nat.le_trans h.size hb))
  · intro b hb
    rcases hb with hb | hb
    · rcases hI2 b hb with hb | ⟨_, hb⟩
      · exact Nat.lt_of_lt_of_le (h.ib b (.inl hb)) hg.size
      · exact hb
    · exact Nat.lt_of_lt_of_le (h.ib b (.inr hb)) hg.size
  · intro id t ht
    rcases hcase id t ht with ⟨h1, h2, h3⟩ | ⟨h1, h2, h3⟩
    · obtain ⟨_, q1, q2, q3⟩ := hn.tree id t h1
      rw [h2, h3]
      refine ⟨q1, q2, fun b hb => ?_⟩
      obtain ⟨r1, r2, r3⟩ := q3 b hb
      exact ⟨r3, fun hB => by have := h.ib b (.inr hB); omega, r2, .inl (Nat.le_trans h.size r1)⟩
    · obtain ⟨q1, q2, q3⟩ := h.tree id t h1
      rw [h2, h3]
      refine ⟨q1.mono hM (hbs id t h1), q2, fun b hb => ?_⟩
      obtain ⟨r1, r2, r3, r4⟩ := q3 b hb
      exact ⟨fun hb' => (hI2 b hb').elim r1 (fun q => by omega), r2, Nat.lt_of_lt_of_le r3 hg.size, r4⟩
  · intro i j t u hi hj hij b hb
    rcases hcase i t hi with ⟨h1, _, h3⟩ | ⟨h1, _, h3⟩ <;> rcases hcase j u hj with ⟨k1, _, k3⟩ | ⟨k1, _, k3⟩ <;> rw [h3] at hb <;> rw [k3]
    · exact hn.dis i j t u h1 k1 hij b hb
    · intro hb'
      have := ((hn.tree i t h1).2.2.2 b hb).1
      have := ((h.tree j u k1).2.2 b hb').2.2.1
      omega
    · intro hb'
      have := ((hn.tree j u k1).2.2.2 b hb').1
      have := ((h.tree i t h1).2.2 b hb).2.2.1
      omega
    · exact h.dis i j t u h1 k1 hij b hb
  · intro k
    exact (h.tmp k).mono hM (fun id t ht => ⟨(h.tree id t ht).1, hbs id t ht⟩) hold
  · intro b hb hF
    rw [hg.heap b (Nat.lt_of_lt_of_le hb h.size)]
    exact h.frame b hb hF

/-- The same with no new tree and no block that is newly known to stay. -/
theorem RelAt.grew {C : Ctx} {st : St} {tm : Array Value} {w w' : World} {I : Nat → Prop} {rt : Nat → List Value} {fp : Nat → List Nat} (h : RelAt C st tm w I rt fp) (hg : Grew w w') :
    RelAt C st tm w' I rt fp := by
  have := h.ext (rtn := rt) (fpn := fp) hg (fun _ h => h) (fun _ h => .inl h) (new := []) .nil
  exact this

/-- What is wanted less of. -/
def covG : List (Nat × AV) → St → Prop
  | [], _ => True
  | (k, av) :: r, st => gt st.g k = av ∧ covG r st
def covH : List (Nat × Tree) → St → Prop
  | [], _ => True
  | (k, t) :: r, st => lk st.h k = some t ∧ covH r st

theorem covG.get {r : List (Nat × AV)} {st : St} (h : covG r st) : ∀ k, gt r k = .dead ∨ gt r k = gt st.g k := by
  induction r with
  | nil => exact fun k => .inl rfl
  | cons q r ih =>
    obtain ⟨k0, av⟩ := q
    intro k
    rw [gt_cons]
    split
    · rename_i e; subst e; exact .inr h.1.symm
    · exact ih h.2 k

theorem covH.get {r : List (Nat × Tree)} {st : St} (h : covH r st) : ∀ k t, lk r k = some t → lk st.h k = some t := by
  induction r with
  | nil => intro k t h; cases h
  | cons q r ih =>
    obtain ⟨k0, av⟩ := q
    intro k t ht
    rw [lk_cons] at ht
    split at ht
    · rename_i e; subst e; rw [← ht]; exact h.1
    · exact ih h.2 k t ht

mutual
/-- The trees that a value stands for. -/
def AV.ids : AV → List Nat
  | .dead | .val _ _ | .cv _ => []
  | .ref id _ | .addr id _ | .view id _ _ _ => [id]
  | .app id _ _ _ own => id :: own
  | .tup l | .agg l | .clo _ l => AV.idsL l
def AV.idsL : List AV → List Nat
  | [] => []
  | a :: r => a.ids ++ AV.idsL r
end

theorem AV.mem_idsL {l : List AV} {i : Nat} {a : AV} (h : l[i]? = some a) {id : Nat} (hid : id ∈ a.ids) : id ∈ AV.idsL l := by
  induction l generalizing i with
  | nil => simp at h
  | cons x r ih =>
    simp only [AV.idsL, List.mem_append]
    cases i with
    | zero => simp at h; subst h; exact .inl hid
    | succ i => simp at h; exact .inr (ih h)

/-- A value's meaning hangs only on the trees that it names. -/
theorem AVok.monoOn {M M' : Md → Nat → Prop} {w w' : World} {h h' : List (Nat × Tree)} {rt rt' : Nat → List Value} {fp fp' : Nat → List Nat} (hM : ∀ m b, M m b → M' m b ∧ Sm w w' b)
    {a : AV} {v : Value} (ha : AVok M w h rt fp a v)
    (hk : ∀ id ∈ a.ids, ∀ t, lk h id = some t → lk h' id = some t ∧ rt' id = rt id ∧ fp' id = fp id ∧ Rep M w t.1 (rt id) t.2 (fp id) ∧ ∀ b ∈ fp id, Sm w w' b) : AVok M' w' h' rt' fp' a v := by
  induction ha with
  | dead v => exact .dead v
  | cv v => exact .cv v
  | val r => exact .val (r.mono hM (by simp))
  | ref ht hn =>
    obtain ⟨k1, k2, _, k4, k5⟩ := hk _ (by simp [AV.ids]) _ ht
    exact .ref k1 (by rw [k2]; exact hn.sm k4 k5)
  | addr ht hn =>
    obtain ⟨k1, k2, _, k4, k5⟩ := hk _ (by simp [AV.ids]) _ ht
    exact .addr k1 (by rw [k2]; exact hn.sm k4 k5)
  | view ht hn h1 h2 h3 =>
    obtain ⟨k1, k2, _, k4, k5⟩ := hk _ (by simp [AV.ids]) _ ht
    exact .view k1 (by rw [k2]; exact hn.sm k4 k5) h1 h2 h3
  | @app id p τ ys own t loc c0 xs f1 f2 v ht hnb hn hg h1 hf1 h2 hown hsub hnd =>
    obtain ⟨k1, k2, k3, hr, hs⟩ := hk _ (by simp [AV.ids]) _ ht
    have hf2 : ∀ b ∈ f2, Sm w w' b := fun b hb => by
      rcases hsub b hb with hb | ⟨i, hi, hb⟩
      · exact hs b (hf1 b hb)
      · obtain ⟨_, u, hu⟩ := hown i hi
        exact (hk i (by simp [AV.ids, hi]) u hu).2.2.2.2 b hb
    refine .app k1 hnb (by rw [k2]; exact hn.sm hr hs) hg (h1.mono hM (fun b hb => hs b (hf1 b hb))) (by rw [k3]; exact hf1) (h2.mono hM hf2) ?_ ?_ hnd
    · intro i hi
      obtain ⟨q, u, hu⟩ := hown i hi
      exact ⟨q, u, (hk i (by simp [AV.ids, hi]) u hu).1⟩
    · intro b hb
      rcases hsub b hb with hb | ⟨i, hi, hb⟩
      · exact .inl hb
      · obtain ⟨_, u, hu⟩ := hown i hi
        exact .inr ⟨i, hi, by rw [(hk i (by simp [AV.ids, hi]) u hu).2.2.1]; exact hb⟩
  | tup hl _ ih => exact .tup hl (fun i a v h1 h2 => ih i a v h1 h2 (fun id hid => hk id (AV.mem_idsL h1 hid)))
  | agg hl _ ih => exact .agg hl (fun i a v h1 h2 => ih i a v h1 h2 (fun id hid => hk id (AV.mem_idsL h1 hid)))
  | clo hl _ ih => exact .clo hl (fun i a v h1 h2 => ih i a v h1 h2 (fun id hid => hk id (AV.mem_idsL h1 hid)))

/-- Less is known: what is dropped, of temporaries and of trees. -/
theorem RelAt.cov {C : Ctx} {st st' : St} {tm : Array Value} {w : World} {I : Nat → Prop} {rt : Nat → List Value} {fp : Nat → List Nat} (h : RelAt C st tm w I rt fp)
    (hg : covG st'.g st) (hh : covH st'.h st) (hid : ∀ k, ∀ id ∈ (gt st'.g k).ids, (lk st'.h id).isSome = true) : RelAt C st' tm w I rt fp where
  n := h.n
  i0 := h.i0
  i1 := h.i1
  ib := h.ib
  tree := fun id t ht => h.tree id t (hh.get id t ht)
  dis := fun i j t u hi hj => h.dis i j t u (hh.get i t hi) (hh.get j u hj)
  tmp := fun k => by
    rcases hg.get k with e | e
    · rw [e]; exact .dead _
    · have := hid k
      rw [e] at this ⊢
      refine (h.tmp k).monoOn (fun m b hb => ⟨hb, Sm.refl w b⟩) (fun id hi t ht => ?_)
      obtain ⟨u, hu⟩ := Option.isSome_iff_exists.1 (this id hi)
      have := hh.get id u hu
      rw [ht] at this
      obtain rfl := Option.some.inj this
      exact ⟨hu, rfl, rfl, (h.tree id t ht).1, fun b _ => Sm.refl w b⟩
  frame := h.frame
  size := h.size
  os := h.os
  tape := h.tape
  output := h.output
  pin := h.pin

/-- Do the temporaries of a list name only trees that are there? -/
def idsIn (g : List (Nat × AV)) (h : List (Nat × Tree)) : Bool := g.all fun q => q.2.ids.all fun id => (lk h id).isSome
theorem idsIn.get {g : List (Nat × AV)} {h : List (Nat × Tree)} (hh : idsIn g h = true) (k : Nat) : ∀ id ∈ (gt g k).ids, (lk h id).isSome = true := by
  intro id hid
  unfold gt at hid
  cases hk : lk g k with
  | none => rw [hk] at hid; simp [AV.ids] at hid
  | some av =>
    rw [hk] at hid
    have hm : (k, av) ∈ g := by
      clear hh hid
      induction g with
      | nil => cases hk
      | cons q r ih =>
        obtain ⟨k0, a0⟩ := q
        rw [lk_cons] at hk
        split at hk
        · rename_i e; subst e; obtain rfl := Option.some.inj hk; simp
        · exact List.mem_cons_of_mem _ (ih hk)
    simp only [idsIn, List.all_eq_true] at hh
    exact hh (k, av) hm id hid
end Go.Fw
