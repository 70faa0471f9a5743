/-
  The framework, part 2: abstract states, and how a frame and a world stand to them.
-/
import Derived.Test.YtlalecmgnaoiiaaFw1
namespace Go.Fw

def md (I B : Nat → Prop) : Md → Nat → Prop
  | .imm => I
  | .bor => fun b => I b ∨ B b

theorem md_or {I B : Nat → Prop} {m : Md} {b : Nat} (h : md I B m b) : I b ∨ B b := by cases m; exact .inl h; exact h

/-- A value in a temporary, of its cells. -/
def regV : Ty → List Value → Value
  | .st _, cs => .agg cs.toArray
  | _, cs => cs.headD undef

inductive AV where
  | dead
  | val (τ : Ty) (x : τ.den)
  | ref (id : Nat) (p : List Step)
  | addr (id : Nat) (p : List Step)
  | view (id : Nat) (p : List Step) (lo hi : Nat)
  | app (id : Nat) (p : List Step) (τ : Ty) (ys : List τ.den) (own : List Nat)
  | cv (v : Value)
  | tup (l : List AV)
  | agg (l : List AV)
  | clo (f : Nat) (l : List AV)

abbrev Tree := (τ : Ty) × τ.den

structure St where
  g : List (Nat × AV)
  h : List (Nat × Tree)

def lk {α : Type} : List (Nat × α) → Nat → Option α
  | [], _ => none
  | (k, v) :: r, n => bif Nat.beq k n then some v else lk r n

theorem lk_cons {α : Type} (k : Nat) (v : α) (r : List (Nat × α)) (n : Nat) : lk ((k, v) :: r) n = if k = n then some v else lk r n := by
  show (bif Nat.beq k n then some v else lk r n) = _
  by_cases h : k = n
  · rw [if_pos h, h]; simp
  · rw [if_neg h]
    have : Nat.beq k n = false := by
      cases hb : Nat.beq k n
      · rfl
      · exact absurd (Nat.eq_of_beq_eq_true hb) h
    rw [this]; rfl

def gt (g : List (Nat × AV)) (n : Nat) : AV := match lk g n with | some v => v | none => .dead

/-- What is fixed for one call: the memory that stays as it is, what is borrowed, what may be written, the world at entry. -/
structure Ctx where
  I0 : Nat → Prop
  B : Nat → Prop
  F0 : Nat → Prop
  w0 : World
  n : Nat
  pin : List Nat
  vs : Nat → Value

/-- A temporary that may be written: all but those of arguments that are handed over for writing. -/
def Ctx.ok (C : Ctx) (d : Nat) : Prop := d < C.n ∧ d ∉ C.pin

/-- A value of a temporary. -/
inductive AVok (M : Md → Nat → Prop) (w : World) (h : List (Nat × Tree)) (rt : Nat → List Value) (fp : Nat → List Nat) : AV → Value → Prop
  | dead (v : Value) : AVok M w h rt fp .dead v
  | cv (v : Value) : AVok M w h rt fp (.cv v) v
  | val {τ : Ty} {x : τ.den} {cs : List Value} (r : Rep M w τ cs x []) : AVok M w h rt fp (.val τ x) (regV τ cs)
  | ref {id : Nat} {p : List Step} {t : Tree} {τ' : Ty} {loc : Loc} {cs : List Value} (ht : lk h id = some t) (hn : Nav w t.1 none (rt id) p τ' loc cs) : AVok M w h rt fp (.ref id p) (regV τ' cs)
  | addr {id : Nat} {p : List Step} {t : Tree} {τ' : Ty} {b o : Nat} {cs : List Value} (ht : lk h id = some t) (hn : Nav w t.1 none (rt id) p τ' (some (b, o)) cs) : AVok M w h rt fp (.addr id p) (.pointer (some ⟨b, o, none⟩))
  | view {id : Nat} {p : List Step} {lo hi : Nat} {t : Tree} {τ' : Ty} {loc : Loc} {b o len cap : Nat} (ht : lk h id = some t) (hn : Nav w t.1 none (rt id) p (.osl τ') loc [.slice (some ⟨b, o, none⟩) len cap])
      (h1 : lo ≤ hi) (h2 : hi ≤ len) (h3 : len ≤ cap) : AVok M w h rt fp (.view id p lo hi) (.slice (some ⟨b, if cap = lo then o else o + lo * τ'.size, none⟩) (hi - lo) (cap - lo))
  | app {id : Nat} {p : List Step} {τ : Ty} {ys : List τ.den} {own : List Nat} {t : Tree} {loc : Loc} {c0 : List Value} {xs : List τ.den} {f1 f2 : List Nat} {v : Value} (ht : lk h id = some t) (hnb : τ.nb = true)
      (hn : Nav w t.1 none (rt id) p (.osl τ) loc c0) (hg : GetP t.1 t.2 p (.osl τ) xs) (h1 : Rep M w (.osl τ) c0 xs f1) (hf1 : ∀ b ∈ f1, b ∈ fp id) (h2 : Rep M w (.osl τ) [v] (xs ++ ys) f2)
      (hown : ∀ i ∈ own, i ≠ id ∧ ∃ u, lk h i = some u) (hsub : ∀ b ∈ f2, b ∈ f1 ∨ ∃ i ∈ own, b ∈ fp i) (hnd : f2.Nodup) : AVok M w h rt fp (.app id p τ ys own) v
  | tup {l : List AV} {vs : Array Value} (hl : l.length = vs.size) (hh : ∀ (i : Nat) (a : AV) (v : Value), l[i]? = some a → vs[i]? = some v → AVok M w h rt fp a v) : AVok M w h rt fp (.tup l) (.tuple vs)
  | agg {l : List AV} {vs : List Value} (hl : l.length = vs.length) (hh : ∀ (i : Nat) (a : AV) (v : Value), l[i]? = some a → vs[i]? = some v → AVok M w h rt fp a v) :
      AVok M w h rt fp (.agg l) (.agg (vs.map fun v => v.cells.toList).flatten.toArray)
  | clo {f : Nat} {l : List AV} {vs : Array Value} (hl : l.length = vs.size) (hh : ∀ (i : Nat) (a : AV) (v : Value), l[i]? = some a → vs[i]? = some v → AVok M w h rt fp a v) : AVok M w h rt fp (.clo f l) (.func (.func f) #[] vs)

structure RelAt (C : Ctx) (st : St) (tm : Array Value) (w : World) (I : Nat → Prop) (rt : Nat → List Value) (fp : Nat → List Nat) : Prop where
  n : tm.size = C.n
  i0 : ∀ b, C.I0 b → I b
  i1 : ∀ b, I b → C.I0 b ∨ C.w0.heap.size ≤ b ∨ C.F0 b
  ib : ∀ b, I b ∨ C.B b → b < w.heap.size
  tree : ∀ id t, lk st.h id = some t → Rep (md I C.B) w t.1 (rt id) t.2 (fp id) ∧ (fp id).Nodup ∧ ∀ b ∈ fp id, ¬ I b ∧ ¬ C.B b ∧ b < w.heap.size ∧ (C.w0.heap.size ≤ b ∨ C.F0 b)
  dis : ∀ i j t u, lk st.h i = some t → lk st.h j = some u → i ≠ j → ∀ b ∈ fp i, b ∉ fp j
  tmp : ∀ k, AVok (md I C.B) w st.h rt fp (gt st.g k) (tm.getD k undef)
  frame : ∀ b, b < C.w0.heap.size → ¬ C.F0 b → w.heap[b]? = C.w0.heap[b]?
  size : C.w0.heap.size ≤ w.heap.size
  os : w.os = C.w0.os
  tape : w.tape = C.w0.tape
  output : w.output = C.w0.output
  pin : ∀ k ∈ C.pin, tm.getD k undef = C.vs k

def Rel (C : Ctx) (st : St) (tm : Array Value) (w : World) : Prop := ∃ I rt fp, RelAt C st tm w I rt fp

/-- Only new blocks have come. -/
structure Grew (w w' : World) : Prop where
  os : w'.os = w.os
  tape : w'.tape = w.tape
  output : w'.output = w.output
  size : w.heap.size ≤ w'.heap.size
  heap : ∀ b, b < w.heap.size → w'.heap[b]? = w.heap[b]?

theorem Grew.refl (w : World) : Grew w w := ⟨rfl, rfl, rfl, Nat.le_refl _, fun _ _ => rfl⟩
theorem Grew.trans {a b c : World} (h : Grew a b) (k : Grew b c) : Grew a c :=
  ⟨k.os.trans h.os, k.tape.trans h.tape, k.output.trans h.output, Nat.le_trans h.size k.size, fun i hi => (k.heap i (Nat.lt_of_lt_of_le hi h.size)).trans (h.heap i hi)⟩
theorem Grew.drew {a w : World} (h : Grew a w) : Grew a w.drew := ⟨h.os, h.tape, h.output, h.size, h.heap⟩
theorem Grew.alloc (w : World) (o : Obj) : Grew w (w.alloc o) := ⟨rfl, rfl, rfl, by simp, fun b hb => by
  show (w.heap.push o)[b]? = _
  rw [Array.getElem?_push, if_neg (by omega)]⟩

/-- The value of a temporary is what it was where the trees that it stands for are as they were. -/
theorem AVok.mono {M M' : Md → Nat → Prop} {w w' : World} {h h' : List (Nat × Tree)} {rt rt' : Nat → List Value} {fp fp' : Nat → List Nat} (hM : ∀ m b, M m b → M' m b ∧ Sm w w' b)
    (hh : ∀ id t, lk h id = some t → Rep M w t.1 (rt id) t.2 (fp id) ∧ ∀ b ∈ fp id, Sm w w' b)
    {a : AV} {v : Value} (ha : AVok M w h rt fp a v)
    (hk : ∀ id t, lk h id = some t → lk h' id = some t ∧ rt' id = rt id ∧ fp' id = fp id) : AVok M' w' h' rt' fp' a v := by
  induction ha with
  | dead v => exact .dead v
  | cv v => exact .cv v
  | val r => exact .val (r.mono hM (by simp))
  | ref ht hn =>
    obtain ⟨k1, k2, _⟩ := hk _ _ ht
    exact .ref k1 (by rw [k2]; exact hn.sm (hh _ _ ht).1 (hh _ _ ht).2)
  | addr ht hn =>
    obtain ⟨k1, k2, _⟩ := hk _ _ ht
    exact .addr k1 (by rw [k2]; exact hn.sm (hh _ _ ht).1 (hh _ _ ht).2)
  | view ht hn h1 h2 h3 =>
    obtain ⟨k1, k2, _⟩ := hk _ _ ht
    exact .view k1 (by rw [k2]; exact hn.sm (hh _ _ ht).1 (hh _ _ ht).2) h1 h2 h3
  | @app id p τ ys own t loc c0 xs f1 f2 v ht hnb hn hg h1 hf1 h2 hown hsub hnd =>
    obtain ⟨k1, k2, k3⟩ := hk _ _ ht
    obtain ⟨hr, hs⟩ := hh _ _ ht
    have hf2 : ∀ b ∈ f2, Sm w w' b := fun b hb => by
      rcases hsub b hb with hb | ⟨i, hi, hb⟩
      · exact hs b (hf1 b hb)
      · obtain ⟨_, u, hu⟩ := hown i hi
        exact (hh i u hu).2 b hb
    refine .app k1 hnb (by rw [k2]; exact hn.sm hr hs) hg (h1.mono hM (fun b hb => hs b (hf1 b hb))) (by rw [k3]; exact hf1) (h2.mono hM hf2) ?_ ?_ hnd
    · intro i hi
      obtain ⟨q, u, hu⟩ := hown i hi
      exact ⟨q, u, (hk i u hu).1⟩
    · intro b hb
      rcases hsub b hb with hb | ⟨i, hi, hb⟩
      · exact .inl hb
      · obtain ⟨_, u, hu⟩ := hown i hi
        exact .inr ⟨i, hi, by rw [(hk i u hu).2.2]; exact hb⟩
  | tup hl _ ih => exact .tup hl (fun i a v h1 h2 => ih i a v h1 h2)
  | agg hl _ ih => exact .agg hl (fun i a v h1 h2 => ih i a v h1 h2)
  | clo hl _ ih => exact .clo hl (fun i a v h1 h2 => ih i a v h1 h2)
end Go.Fw
