/-
  The framework, part 8: structs, small operations; all operations that compute, read or make memory, in one function.
-/
import Derived.Test.YtlalecmgnaoiiaaFw7
namespace Go.Fw

def pk (l : List (Nat × Operand)) (n : Nat) : Option Operand := lk l n

/-- A struct of values; parts that are not given are zero. -/
def mkSt (g : Operand → AV) (parts : List (Nat × Operand)) : Ty → Nat → Option Tree
  | .pr a b, n =>
    match (match pk parts n with
      | none => match zeroD a with
        | some z => some (⟨a, z⟩ : Tree)
        | none => none
      | some x => match g x with
        | .val τ y => bif sameLay a τ then some ⟨τ, y⟩ else none
        | .cv v => match cvC a v.cells.toList with
          | some y => some ⟨a, y⟩
          | none => none
        | _ => none), mkSt g parts b (n + 1) with
    | some x, some y => some ⟨.pr x.1 y.1, (x.2, y.2)⟩
    | _, _ => none
  | .nil, _ => some ⟨.nil, ()⟩
  | _, _ => none

def incr : List (Nat × Operand) → Nat → Bool
  | [], _ => true
  | q :: r, k => Nat.ble k q.1 && incr r (q.1 + 1)

def nFlds : Ty → Nat
  | .pr _ b => nFlds b + 1
  | _ => 0

theorem incr_ge : ∀ {l : List (Nat × Operand)} {k : Nat}, incr l k = true → ∀ q ∈ l, k ≤ q.1
  | [], _, _, q, h => by cases h
  | x :: l, k, h, q, hq => by
      simp only [incr, Bool.and_eq_true] at h
      rcases List.mem_cons.1 hq with rfl | hq
      · exact Nat.le_of_ble_eq_true h.1
      · have := incr_ge h.2 q hq
        have := Nat.le_of_ble_eq_true h.1
        omega

theorem incr_pw : ∀ {l : List (Nat × Operand)} {k : Nat}, incr l k = true → l.Pairwise fun q r => q.1 < r.1
  | [], _, _ => List.Pairwise.nil
  | x :: l, k, h => by
      simp only [incr, Bool.and_eq_true] at h
      exact List.Pairwise.cons (fun q hq => by have := incr_ge h.2 q hq; omega) (incr_pw h.2)

theorem lk_mem {α : Type} : ∀ {l : List (Nat × α)} {k : Nat} {v : α}, lk l k = some v → (k, v) ∈ l
  | [], _, _, h => by cases h
  | (k0, v0) :: r, k, v, h => by
      rw [lk_cons] at h
      split at h
      · rename_i e; subst e; cases h; simp
      · exact List.mem_cons_of_mem _ (lk_mem h)
theorem lk_none {α : Type} : ∀ {l : List (Nat × α)} {k : Nat}, lk l k = none → ∀ q ∈ l, q.1 ≠ k
  | [], _, _, q, hq => by cases hq
  | (k0, v0) :: r, k, h, q, hq => by
      rw [lk_cons] at h
      split at h
      · cases h
      · rename_i e
        rcases List.mem_cons.1 hq with rfl | hq
        · exact e
        · exact lk_none h q hq

theorem nFlds_lt {P : Program} : ∀ {u : Ty} {fs : List Field} {off : Nat} {zs : List Value}, FldF P u fs off zs → ∀ n, n < nFlds u → ∃ s t, fldSteps u n = some (s, t)
  | .pr a b, f :: r, off, zs, h, 0, _ => ⟨_, _, rfl⟩
  | .pr a b, f :: r, off, zs, h, n + 1, hn => by
      obtain ⟨s, t, hs⟩ := nFlds_lt (u := b) h.2.2.2.2 n (by simp only [nFlds] at hn; omega)
      exact ⟨.snd :: s, t, by simp [fldSteps, hs]⟩
  | .pr _ _, [], _, _, h, _, _ => h.elim
  | .int _, _, _, _, _, _, hn => by simp [nFlds] at hn
  | .bool, _, _, _, _, _, hn => by simp [nFlds] at hn
  | .str, _, _, _, _, _, hn => by simp [nFlds] at hn
  | .slc _ _, _, _, _, _, _, hn => by simp [nFlds] at hn
  | .osl _, _, _, _, _, _, hn => by simp [nFlds] at hn
  | .ptr _ _, _, _, _, _, _, hn => by simp [nFlds] at hn
  | .optr _, _, _, _, _, _, hn => by simp [nFlds] at hn
  | .st _, _, _, _, _, _, hn => by simp [nFlds] at hn
  | .nil, _, _, _, _, _, hn => by simp [nFlds] at hn
  | .blk, _, _, _, _, _, hn => by simp [nFlds] at hn

theorem fldOff_mono : ∀ {u : Ty} {n m : Nat} {s s' : List Step} {t t' : Ty}, fldSteps u n = some (s, t) → fldSteps u m = some (s', t') → n < m → fldOff u n + t.size ≤ fldOff u m
  | .pr a b, 0, m + 1, s, s', t, t', h, h', _ => by
      simp only [fldSteps, Option.some.injEq, Prod.mk.injEq] at h
      obtain ⟨_, rfl⟩ := h
      simp [fldOff]
  | .pr a b, n + 1, m + 1, s, s', t, t', h, h', hl => by
      simp only [fldSteps] at h h'
      cases hq : fldSteps b n with
      | none => rw [hq] at h; cases h
      | some q =>
        cases hq' : fldSteps b m with
        | none => rw [hq'] at h'; cases h'
        | some q' =>
          rw [hq] at h; rw [hq'] at h'
          simp only [Option.some.injEq, Prod.mk.injEq] at h h'
          obtain ⟨_, rfl⟩ := h
          obtain ⟨_, rfl⟩ := h'
          have := fldOff_mono (u := b) (s := q.1) (t := q.2) (s' := q'.1) (t' := q'.2) hq hq' (by omega)
          simp only [fldOff]; omega
  | .int _, _, _, _, _, _, _, h, _, _ => by cases h
  | .bool, _, _, _, _, _, _, h, _, _ => by cases h
  | .str, _, _, _, _, _, _, h, _, _ => by cases h
  | .slc _ _, _, _, _, _, _, _, h, _, _ => by cases h
  | .osl _, _, _, _, _, _, _, h, _, _ => by cases h
  | .ptr _ _, _, _, _, _, _, _, h, _, _ => by cases h
  | .optr _, _, _, _, _, _, _, h, _, _ => by cases h
  | .st _, _, _, _, _, _, _, h, _, _ => by cases h
  | .nil, _, _, _, _, _, _, h, _, _ => by cases h
  | .blk, _, _, _, _, _, _, h, _, _ => by cases h

theorem fldSteps_lt : ∀ {u : Ty} {n : Nat} {s : List Step} {t : Ty}, fldSteps u n = some (s, t) → n < nFlds u
  | .pr a b, 0, _, _, _ => by simp [nFlds]
  | .pr a b, n + 1, s, t, h => by
      simp only [fldSteps] at h
      split at h
      · rename_i q hq
        have := fldSteps_lt (u := b) (s := q.1) (t := q.2) hq
        simp only [nFlds]; omega
      · cases h
  | .int _, _, _, _, h => by cases h
  | .bool, _, _, _, h => by cases h
  | .str, _, _, _, h => by cases h
  | .slc _ _, _, _, _, h => by cases h
  | .osl _, _, _, _, h => by cases h
  | .ptr _ _, _, _, _, h => by cases h
  | .optr _, _, _, _, h => by cases h
  | .st _, _, _, _, h => by cases h
  | .nil, _, _, _, h => by cases h
  | .blk, _, _, _, h => by cases h

theorem incr_lk : ∀ {l : List (Nat × Operand)} {k : Nat} {p : Nat × Operand}, incr l k = true → p ∈ l → pk l p.1 = some p.2
  | [], _, _, _, h => by cases h
  | x :: l, k, p, h, hp => by
      simp only [incr, Bool.and_eq_true] at h
      obtain ⟨x1, x2⟩ := x
      unfold pk
      rw [lk_cons]
      rcases List.mem_cons.1 hp with rfl | hp
      · rw [if_pos rfl]
      · have := incr_ge h.2 p hp
        simp only at this
        rw [if_neg (by omega)]
        exact incr_lk h.2 hp

section
variable {E : Env} {C : Ctx} {st : St} {a : Act} {w : World} {I : Nat → Prop} {rt : Nat → List Value} {fp : Nat → List Nat} {o : Oper} {Q : AV → List (Nat × Tree) → Prop}

def bldF (tt : List (TypeId × Ty)) (g : Operand → AV) (T : TypeId) (parts : List (Nat × Operand)) : Res :=
  match isStT tt T with
  | none => .bad
  | some u => bif incr parts 0 && parts.all (fun q => Nat.blt q.1 (nFlds u)) then match mkSt g parts u 0 with
      | some t => .tot (.val (.st t.1) t.2) []
      | none => .bad
    else .bad

theorem mkSt_rep {P : Program} {M : Md → Nat → Prop} {h : List (Nat × Tree)} {g : Operand → AV} {ev : Operand → Value} (hg : ∀ x, AVok M w h rt fp (g x) (ev x)) {parts : List (Nat × Operand)} {cells : List Value} :
    ∀ {u : Ty} {n : Nat} {fs : List Field} {off : Nat} {zs : List Value} {t : Tree}, FldF P u fs off zs → mkSt g parts u n = some t → cells.length = off + u.size →
      (∀ m s τ, fldSteps u m = some (s, τ) → (∀ x, pk parts (n + m) = some x → (ev x).cells.size = τ.size ∧ (cells.drop (off + fldOff u m)).take τ.size = (ev x).cells.toList) ∧ (pk parts (n + m) = none → (cells.drop (off + fldOff u m)).take τ.size = (zs.drop (fldOff u m)).take τ.size)) →
      Rep M w t.1 (cells.drop off) t.2 [] ∧ t.1.size = u.size
  | .pr a b, n, f :: r, off, zs, t, hF, hm, hl, hc => by
      simp only [mkSt] at hm
      split at hm
      case h_2 => cases hm
      rename_i x y hx hy
      cases hm
      obtain ⟨h1, h2, h3, ⟨i, z, q1, q2, q3⟩, h5⟩ := hF
      have hc0 := hc 0 _ a rfl
      simp only [Nat.add_zero, fldOff, List.drop_zero] at hc0
      have hA : Rep M w x.1 ((cells.drop off).take a.size) x.2 [] ∧ x.1.size = a.size := by
        split at hx
        · rename_i hp
          split at hx
          · rename_i z' hz
            cases hx
            obtain ⟨i', zv, r1, r2, _, r4⟩ := zero_rep h2 hz
            rw [q1] at r1; cases r1
            rw [q2] at r2; cases r2
            rw [hc0.2 hp, q3]
            exact ⟨r4 M w, rfl⟩
          · cases hx
        · rename_i p hp
          have hgp := hg p
          obtain ⟨k1, k2⟩ := hc0.1 p hp
          split at hx
          · rename_i τ y' e
            cases hb : sameLay a τ with
            | false => rw [hb] at hx; cases hx
            | true =>
              rw [hb] at hx
              cases hx
              rw [e] at hgp
              rw [k2]
              generalize hv : ev p = v at hgp
              cases hgp with | val rr =>
              rw [regV_cells (h2.lay hb) rr.len rr.one]
              exact ⟨rr, (sameLay.size hb).symm⟩
          · rename_i v e
            split at hx
            · rename_i y' hy'
              cases hx
              rw [e] at hgp
              rw [k2]
              generalize hv : ev p = v' at hgp
              cases hgp
              exact ⟨cvC_rep hy', rfl⟩
            · cases hx
          · cases hx
      have hB := mkSt_rep hg (parts := parts) (cells := cells) (u := b) (n := n + 1) (off := off + a.size) (zs := zs.drop a.size) h5 hy (by rw [hl]; simp only [Ty.size]; omega) (by
        intro m s τ hs
        have := hc (m + 1) (.snd :: s) τ (by simp [fldSteps, hs])
        simp only [fldOff] at this
        rw [show n + (m + 1) = n + 1 + m by omega, show off + (a.size + fldOff b m) = off + a.size + fldOff b m by omega] at this
        rw [List.drop_drop]
        exact this)
      refine ⟨⟨[], [], rfl, ?_, ?_⟩, by simp only [Ty.size]; omega⟩
      · rw [hA.2]; exact hA.1
      · rw [hA.2, List.drop_drop]; exact hB.1
  | .nil, n, [], off, zs, t, hF, hm, hl, hc => by
      cases hm
      exact ⟨⟨rfl, by rw [List.drop_eq_nil_iff]; simp only [Ty.size] at hl; omega⟩, rfl⟩
  | .pr _ _, _, [], _, _, _, h, _, _, _ => h.elim
  | .nil, _, _ :: _, _, _, _, h, _, _, _ => h.elim
  | .int _, _, _, _, _, _, h, _, _, _ => by cases h
  | .bool, _, _, _, _, _, h, _, _, _ => by cases h
  | .str, _, _, _, _, _, h, _, _, _ => by cases h
  | .slc _ _, _, _, _, _, _, h, _, _, _ => by cases h
  | .osl _, _, _, _, _, _, h, _, _, _ => by cases h
  | .ptr _ _, _, _, _, _, _, h, _, _, _ => by cases h
  | .optr _, _, _, _, _, _, h, _, _, _ => by cases h
  | .st _, _, _, _, _, _, h, _, _, _ => by cases h
  | .blk, _, _, _, _, _, h, _, _, _ => by cases h

/-- The sizes of the parts are those of the fields. -/
theorem mkSt_size {P : Program} {M : Md → Nat → Prop} {h : List (Nat × Tree)} {g : Operand → AV} {ev : Operand → Value} (hg : ∀ x, AVok M w h rt fp (g x) (ev x)) {parts : List (Nat × Operand)} :
    ∀ {u : Ty} {n : Nat} {fs : List Field} {off : Nat} {zs : List Value} {t : Tree}, FldF P u fs off zs → mkSt g parts u n = some t →
      ∀ m s τ, fldSteps u m = some (s, τ) → ∀ x, pk parts (n + m) = some x → (ev x).cells.size = τ.size
  | .pr a b, n, f :: r, off, zs, t, hF, hm, m, s, τ, hs, x, hp => by
      simp only [mkSt] at hm
      split at hm
      case h_2 => cases hm
      rename_i x0 y0 hx hy
      obtain ⟨h1, h2, h3, ⟨i, z, q1, q2, q3⟩, h5⟩ := hF
      cases m with
      | zero =>
        simp only [fldSteps, Option.some.injEq, Prod.mk.injEq] at hs
        obtain ⟨_, rfl⟩ := hs
        rw [Nat.add_zero] at hp
        rw [hp] at hx
        have hgp := hg x
        simp only at hx
        split at hx
        · rename_i τ y' e
          cases hb : sameLay a τ with
          | false => rw [hb] at hx; cases hx
          | true =>
            rw [e] at hgp
            generalize hv : ev x = v at hgp
            cases hgp with | val rr =>
            rw [regV_cells (h2.lay hb) rr.len rr.one]
            have := rr.len
            have := sameLay.size hb
            simp; omega
        · rename_i v e
          split at hx
          · rename_i y' hy'
            rw [e] at hgp
            generalize hv : ev x = v' at hgp
            cases hgp
            have := (cvC_rep (M := M) (w := w) hy').len
            simpa using this
          · cases hx
        · cases hx
      | succ m =>
        simp only [fldSteps] at hs
        split at hs
        · rename_i q hq
          simp only [Option.some.injEq, Prod.mk.injEq] at hs
          obtain ⟨_, rfl⟩ := hs
          exact mkSt_size hg (u := b) (n := n + 1) h5 hy m q.1 q.2 hq x (by rwa [show n + 1 + m = n + (m + 1) by omega])
        · cases hs
  | .pr _ _, _, [], _, _, _, h, _, _, _, _, _, _, _ => h.elim
  | .nil, _, _, _, _, _, _, _, _, _, _, hs, _, _ => by cases hs
  | .int _, _, _, _, _, _, h, _, _, _, _, _, _, _ => by cases h
  | .bool, _, _, _, _, _, h, _, _, _, _, _, _, _ => by cases h
  | .str, _, _, _, _, _, h, _, _, _, _, _, _, _ => by cases h
  | .slc _ _, _, _, _, _, _, h, _, _, _, _, _, _, _ => by cases h
  | .osl _, _, _, _, _, _, h, _, _, _, _, _, _, _ => by cases h
  | .ptr _ _, _, _, _, _, _, h, _, _, _, _, _, _, _ => by cases h
  | .optr _, _, _, _, _, _, h, _, _, _, _, _, _, _ => by cases h
  | .st _, _, _, _, _, _, h, _, _, _, _, _, _, _ => by cases h
  | .blk, _, _, _, _, _, h, _, _, _, _, _, _, _ => by cases h

theorem run_places {P : Program} (w : World) : ∀ (u : Ty) (fs : List Field) (off : Nat) (zs : List Value), FldF P u fs off zs →
    (fs.mapM fun f => do Pure.pure (f.offset, ← sizeOf f.type) : Sem (List (Nat × Nat))).run P w = .ok ((List.range (nFlds u)).map fun n => (off + fldOff u n, match fldSteps u n with | some q => q.2.size | none => 0)) w
  | .pr a b, f :: r, off, zs, h => by
      have ih := run_places w b r (off + a.size) (zs.drop a.size) h.2.2.2.2
      simp only [List.mapM_cons, Sem.run_bind, h.2.1.sizeOf, Result.andThen_ok, Sem.run_pure, ih]
      simp only [nFlds, List.range_succ_eq_map, List.map_cons, List.map_map, h.1, fldOff, Nat.add_zero, fldSteps]
      congr 2
      apply List.map_congr_left
      intro n _
      simp only [Function.comp, fldOff, fldSteps]
      rw [Nat.add_assoc]
      cases fldSteps b n <;> rfl
  | .nil, [], _, _, _ => rfl
  | .pr _ _, [], _, _, h => h.elim
  | .nil, _ :: _, _, _, h => h.elim
  | .int _, _, _, _, h => by cases h
  | .bool, _, _, _, h => by cases h
  | .str, _, _, _, h => by cases h
  | .slc _ _, _, _, _, h => by cases h
  | .osl _, _, _, _, h => by cases h
  | .ptr _ _, _, _, _, h => by cases h
  | .optr _, _, _, _, h => by cases h
  | .st _, _, _, _, h => by cases h
  | .blk, _, _, _, h => by cases h

theorem bldF_sound (hR : RelAt C st a.tmps w I rt fp) {T : TypeId} {parts : Array (Nat × Operand)} (ho : o.op = .build T parts) (h : (bldF E.tt (opA st.g) T parts.toList).K Q) : Yields E C st a w I rt fp o Q := by
  unfold bldF at h
  split at h
  · exact h.elim
  rename_i u hT
  cases hb : (incr parts.toList 0 && parts.toList.all (fun q => Nat.blt q.1 (nFlds u))) with
  | false => rw [hb] at h; exact h.elim
  | true =>
    rw [hb] at h
    simp only [Bool.and_eq_true, List.all_eq_true] at hb
    obtain ⟨b1, b2⟩ := hb
    simp only [cond_true] at h
    split at h
    case h_2 => exact h.elim
    rename_i t ht
    obtain ⟨i, fs, zs, h1, h2, h4, h5, h6, h7⟩ : ∃ i fs zs, E.P.info? T = some i ∧ i.size = u.size ∧ i.zero = some (.agg zs) ∧ E.P.underlying T = some (.struct fs) ∧ FldF E.P u fs.toList 0 zs.toList ∧ zs.size = u.size := by
      unfold isStT at hT
      split at hT
      · rename_i u' hl
        cases hT
        obtain ⟨_, i, fs, zs, q1, q2, _, q4, q5, q6, q7⟩ := E.ok T _ hl
        exact ⟨i, fs, zs, q1, q2, q4, q5, q6, q7⟩
      · cases hT
    have hsz := mkSt_size (fun x => hR.opA x) h6 ht
    have hpl := run_places (P := E.P) w u fs.toList 0 zs.toList h6
    simp only [Nat.zero_add] at hpl hsz
    generalize hpls : ((List.range (nFlds u)).map fun n => (fldOff u n, match fldSteps u n with | some q => q.2.size | none => 0)) = pls at hpl
    have hplace : ∀ n s τ, fldSteps u n = some (s, τ) → n < nFlds u → pls.toArray[n]? = some (fldOff u n, τ.size) := by
      intro n s τ hs hn
      rw [← hpls]
      simp [hn, hs]
    obtain ⟨r, r1, r2, r3, r4⟩ := fill_ok (fun i => pls.toArray[i]?) (parts.toList.map fun q => (q.1, a.eval q.2)) zs (by
      intro q hq
      obtain ⟨p, hp, rfl⟩ := List.mem_map.1 hq
      have hlt : p.1 < nFlds u := Nat.le_of_ble_eq_true (b2 p hp)
      obtain ⟨s, τ, hs⟩ := nFlds_lt h6 p.1 hlt
      refine ⟨_, _, hplace _ _ _ hs hlt, hsz _ _ _ hs p.2 ?_, by rw [h7]; exact fldSteps_le hs⟩
      exact incr_lk b1 hp) (by
      rw [List.pairwise_map]
      refine (incr_pw b1).imp_of_mem ?_
      intro q q' hq hq' hlt o1 s1 o2 s2 e1 e2
      have l1 : q.1 < nFlds u := Nat.le_of_ble_eq_true (b2 q hq)
      have l2 : q'.1 < nFlds u := Nat.le_of_ble_eq_true (b2 q' hq')
      obtain ⟨sa, ta, ha⟩ := nFlds_lt h6 q.1 l1
      obtain ⟨sb, tb, hb⟩ := nFlds_lt h6 q'.1 l2
      rw [hplace _ _ _ ha l1] at e1
      rw [hplace _ _ _ hb l2] at e2
      cases e1; cases e2
      exact .inl (fldOff_mono ha hb hlt))
    have hrl : r.toList.length = u.size := by simp [r2, h7]
    obtain ⟨g1, g2⟩ := mkSt_rep (w := w) (fun x => hR.opA x) (parts := parts.toList) (cells := r.toList) (u := u) (n := 0) (off := 0) h6 ht (by omega) (by
      intro m s τ hs
      have hm : m < nFlds u := fldSteps_lt hs
      simp only [Nat.zero_add]
      have hle := fldSteps_le hs
      refine ⟨fun x hx => ?_, fun hx => ?_⟩
      · have hmem := lk_mem hx
        have hz := hsz m s τ hs x hx
        refine ⟨hz, ?_⟩
        apply List.ext_getElem?
        intro j
        rcases Nat.lt_or_ge j τ.size with hj | hj
        · obtain ⟨v, hv⟩ : ∃ v, (a.eval x).cells[j]? = some v := ⟨_, Array.getElem?_eq_getElem (by omega)⟩
          have := r4 (m, a.eval x) (List.mem_map.2 ⟨(m, x), hmem, rfl⟩) _ _ (hplace _ _ _ hs hm) j v hv
          rw [List.getElem?_take_of_lt hj, List.getElem?_drop]
          simp only [Array.getElem?_toList]
          rw [this, hv]
        · rw [List.getElem?_eq_none (by simp; omega), List.getElem?_eq_none (by simp; omega)]
      · apply List.ext_getElem?
        intro j
        rcases Nat.lt_or_ge j τ.size with hj | hj
        · rw [List.getElem?_take_of_lt hj, List.getElem?_take_of_lt hj, List.getElem?_drop, List.getElem?_drop]
          simp only [Array.getElem?_toList]
          refine r3 _ ?_
          intro q hq o1 s1 e1
          obtain ⟨p, hp, rfl⟩ := List.mem_map.1 hq
          have hne := lk_none hx p hp
          have l1 : p.1 < nFlds u := Nat.le_of_ble_eq_true (b2 p hp)
          obtain ⟨sa, ta, ha⟩ := nFlds_lt h6 p.1 l1
          rw [hplace _ _ _ ha l1] at e1
          cases e1
          rcases Nat.lt_or_gt_of_ne hne with hlt | hgt
          · have := fldOff_mono ha hs hlt; omega
          · have := fldOff_mono hs ha hgt; omega
        · rw [List.getElem?_eq_none (by simp; omega), List.getElem?_eq_none (by simp; omega)])
    rw [List.drop_zero] at g1
    refine .pure (v := .agg r) ?_ (.val (τ := .st t.1) (cs := r.toList) g1) h
    have hpm : (Array.map (fun x => (x.fst, a.eval x.snd)) parts).toList = parts.toList.map fun q => (q.1, a.eval q.2) := by simp
    have hpl' : (fs.mapM fun f => do Pure.pure (f.offset, ← sizeOf f.type) : Sem (Array (Nat × Nat))).run E.P w = .ok pls.toArray w := by
      rw [Array.mapM_eq_mapM_toList, Sem.run_map, hpl]; rfl
    have hz : (zeroValue T).run E.P w = .ok (.agg zs) w := by simp [zeroValue, typeInfo, h1, h4]
    simp only [execOp, ho, Instr.build, Sem.run_bind, hz, run_underlying h5, Result.andThen_ok, hpl', hpm, Value.cells, r1]
    rfl
end
end Go.Fw
