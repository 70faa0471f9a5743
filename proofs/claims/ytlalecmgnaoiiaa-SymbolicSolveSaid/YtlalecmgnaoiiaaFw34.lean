/-
  The framework, part 34 (after 28, before 24): structs, boxes and slice literals of parts that are owned.
-/
import Derived.Test.YtlalecmgnaoiiaaFw28
namespace Go.Fw

section
variable {E : Env} {C : Ctx} {st : St} {a : Act} {w w' : World} {I : Nat → Prop} {rt : Nat → List Value} {fp : Nat → List Nat} {o : Oper} {Q : St → Prop}

/-- One new tree out of touched ones. -/
theorem OK1.own {S : List Nat} {t : Tree} {cs : List Value} {f : List Nat} {d : Nat} {v : Value} {next : Act → World → Prop} {X : Exit → Act → World → Prop} (hd : o.dst = some d) (hdn : C.ok d) (hR : RelAt C st a.tmps w I rt fp)
    (hnext : ∀ st' a' w', Q st' → a'.defers = a.defers → Rel C st' a'.tmps w' → next a' w') (hdS : d ∈ S ∨ lk st.h d = none) (hrun : (execOp a.eval o).run E.P w = .ok (.value v) w') (hg : Grew w w') (hv : v = regV t.1 cs)
    (hr : Rep (md I C.B) w' t.1 cs t.2 f) (hf : f.Nodup) (hb : ∀ b ∈ f, (w.heap.size ≤ b ∧ b < w'.heap.size) ∨ ∃ id' ∈ S, ∃ t', lk st.h id' = some t' ∧ b ∈ fp id')
    (hq : Q ⟨(d, .ref d []) :: kill S [] st.g, (d, t) :: del S st.h⟩) : o.wp E.P a w next X := by
  have hu := hR.upd (UpdOk.one (st := st) (C := C) (rt := rt) (w' := w') (I' := I) (S := S) (d := d) (t := t) (cs := cs) (f := f) hdS hg.size hg.os hg.tape hg.output (fun b hb _ => hg.heap b hb) (fun _ h => h) (fun _ h => .inl h) hr hf (fun b hb' => by
    rcases hb b hb' with ⟨h1, h2⟩ | ⟨i, hi, u, hu, hbi⟩
    · exact ⟨fun h => by have := hR.ib b (.inl h); omega, h2, .inl h1⟩
    · obtain ⟨q1, q2, q3, q4⟩ := (hR.tree i u hu).2.2 b hbi
      exact ⟨q1, Nat.lt_of_lt_of_le q3 hg.size, .inr ⟨i, hi, u, hu, hbi⟩⟩))
  unfold Oper.wp
  rw [hrun]
  show next (a.put o.dst v) w'
  rw [hd]
  refine hnext _ _ _ hq rfl ⟨_, _, _, hu.put hdn (av := .ref d []) ?_⟩
  rw [hv]
  refine .ref (t := t) (loc := none) (by rw [lk_append, lk_cons, if_pos rfl]; rfl) ?_
  rw [mixv_one]
  exact Nav.here

/-- A part of a struct: a value, or a tree. -/
def partO (h : List (Nat × Tree)) (a : Ty) : AV → Option (Tree × List Nat)
  | .val τ y => bif sameLay a τ then some (⟨τ, y⟩, []) else none
  | .cv v => match cvC a v.cells.toList with
    | some y => some (⟨a, y⟩, [])
    | none => none
  | .ref id [] => match lk h id with
    | some t => bif sameLay a t.1 then some (t, [id]) else none
    | none => none
  | _ => none

theorem partO_rep {P : Program} {M : Md → Nat → Prop} {h : List (Nat × Tree)} (hh : ∀ id t, lk h id = some t → Rep M w t.1 (rt id) t.2 (fp id)) {a : Ty} {T : TypeId} (hT : TyF P a T) {av : AV} {v : Value} (hv : AVok M w h rt fp av v)
    {t : Tree} {ids : List Nat} (hp : partO h a av = some (t, ids)) : Rep M w t.1 v.cells.toList t.2 (ids.map fp).flatten ∧ t.1.size = a.size ∧ ∀ id ∈ ids, ∃ u, lk h id = some u := by
  unfold partO at hp
  split at hp
  · rename_i τ y
    cases hb : sameLay a τ with
    | false => rw [hb] at hp; cases hp
    | true =>
      rw [hb] at hp
      cases hp
      cases hv with | val r =>
      rw [regV_cells (hT.lay hb) r.len r.one]
      exact ⟨r, (sameLay.size hb).symm, by simp⟩
  · rename_i v'
    split at hp
    · rename_i y hy
      cases hp
      cases hv
      exact ⟨cvC_rep hy, rfl, by simp⟩
    · cases hp
  · rename_i id
    split at hp
    · rename_i t' ht
      cases hb : sameLay a t'.1 with
      | false => rw [hb] at hp; cases hp
      | true =>
        rw [hb] at hp
        cases hp
        cases hv with | ref ht' hn =>
        rw [ht] at ht'; cases ht'
        obtain ⟨rfl, rfl, rfl⟩ := Nav.nil_iff.1 hn
        have r := hh id _ ht
        rw [regV_cells (hT.lay hb) r.len r.one]
        refine ⟨by simpa using r, (sameLay.size hb).symm, ?_⟩
        intro i hi
        rw [List.mem_singleton] at hi
        subst hi
        exact ⟨_, ht⟩
    · cases hp
  · cases hp

/-- A struct, some of whose parts are owned. -/
def mkO (h : List (Nat × Tree)) (g : Operand → AV) (parts : List (Nat × Operand)) : Ty → Nat → Option (Tree × List Nat)
  | .pr a b, n =>
    match (match pk parts n with
      | none => match zeroD a with
        | some z => some ((⟨a, z⟩ : Tree), ([] : List Nat))
        | none => none
      | some x => partO h a (g x)), mkO h g parts b (n + 1) with
    | some x, some y => some (⟨.pr x.1.1 y.1.1, (x.1.2, y.1.2)⟩, x.2 ++ y.2)
    | _, _ => none
  | .nil, _ => some (⟨.nil, ()⟩, [])
  | _, _ => none

theorem mkO_rep {P : Program} {M : Md → Nat → Prop} {h : List (Nat × Tree)} (hh : ∀ id t, lk h id = some t → Rep M w t.1 (rt id) t.2 (fp id)) {g : Operand → AV} {ev : Operand → Value} (hg : ∀ x, AVok M w h rt fp (g x) (ev x)) {parts : List (Nat × Operand)} {cells : List Value} :
    ∀ {u : Ty} {n : Nat} {fs : List Field} {off : Nat} {zs : List Value} {t : Tree} {ids : List Nat}, FldF P u fs off zs → mkO h g parts u n = some (t, ids) → cells.length = off + u.size →
      (∀ m s τ, fldSteps u m = some (s, τ) → (∀ x, pk parts (n + m) = some x → (ev x).cells.size = τ.size ∧ (cells.drop (off + fldOff u m)).take τ.size = (ev x).cells.toList) ∧ (pk parts (n + m) = none → (cells.drop (off + fldOff u m)).take τ.size = (zs.drop (fldOff u m)).take τ.size)) →
      Rep M w t.1 (cells.drop off) t.2 (ids.map fp).flatten ∧ t.1.size = u.size ∧ ∀ id ∈ ids, ∃ u, lk h id = some u
  | .pr a b, n, f :: r, off, zs, t, ids, hF, hm, hl, hc => by
      simp only [mkO] at hm
      split at hm
      case h_2 => cases hm
      rename_i x y hx hy
      cases hm
      obtain ⟨h1, h2, h3, ⟨i, z, q1, q2, q3⟩, h5⟩ := hF
      have hc0 := hc 0 _ a rfl
      simp only [Nat.add_zero, fldOff, List.drop_zero] at hc0
      have hA : Rep M w x.1.1 ((cells.drop off).take a.size) x.1.2 (x.2.map fp).flatten ∧ x.1.1.size = a.size ∧ ∀ id ∈ x.2, ∃ u, lk h id = some u := by
        split at hx
        · rename_i hp
          split at hx
          · rename_i z' hz
            cases hx
            obtain ⟨i', zv, r1, r2, _, r4⟩ := zero_rep h2 hz
            rw [q1] at r1; cases r1
            rw [q2] at r2; cases r2
            rw [hc0.2 hp, q3]
            exact ⟨r4 M w, rfl, by simp⟩
          · cases hx
        · rename_i p hp
          obtain ⟨k1, k2⟩ := hc0.1 p hp
          rw [k2]
          exact partO_rep hh h2 (hg p) hx
      have hB := mkO_rep hh hg (parts := parts) (cells := cells) (u := b) (n := n + 1) (off := off + a.size) (zs := zs.drop a.size) (t := y.1) (ids := y.2) h5 hy (by rw [hl]; simp only [Ty.size]; omega) (by
        intro m s τ hs
        have := hc (m + 1) (.snd :: s) τ (by simp [fldSteps, hs])
        simp only [fldOff] at this
        rw [show n + (m + 1) = n + 1 + m by omega, show off + (a.size + fldOff b m) = off + a.size + fldOff b m by omega] at this
        rw [List.drop_drop]
        exact this)
      refine ⟨⟨(x.2.map fp).flatten, (y.2.map fp).flatten, by simp, ?_, ?_⟩, by simp only [Ty.size]; omega, ?_⟩
      · rw [hA.2.1]; exact hA.1
      · rw [hA.2.1, List.drop_drop]; exact hB.1
      · intro id hid
        rcases List.mem_append.1 hid with hid | hid
        · exact hA.2.2 id hid
        · exact hB.2.2 id hid
  | .nil, n, [], off, zs, t, ids, hF, hm, hl, hc => by
      cases hm
      exact ⟨⟨rfl, by rw [List.drop_eq_nil_iff]; simp only [Ty.size] at hl; omega⟩, rfl, by simp⟩
  | .pr _ _, _, [], _, _, _, _, h, _, _, _ => h.elim
  | .nil, _, _ :: _, _, _, _, _, h, _, _, _ => h.elim
  | .int _, _, _, _, _, _, _, h, _, _, _ => by cases h
  | .bool, _, _, _, _, _, _, h, _, _, _ => by cases h
  | .str, _, _, _, _, _, _, h, _, _, _ => by cases h
  | .slc _ _, _, _, _, _, _, _, h, _, _, _ => by cases h
  | .osl _, _, _, _, _, _, _, h, _, _, _ => by cases h
  | .ptr _ _, _, _, _, _, _, _, h, _, _, _ => by cases h
  | .optr _, _, _, _, _, _, _, h, _, _, _ => by cases h
  | .st _, _, _, _, _, _, _, h, _, _, _ => by cases h
  | .blk, _, _, _, _, _, _, h, _, _, _ => by cases h

theorem mkO_size {P : Program} {M : Md → Nat → Prop} {h : List (Nat × Tree)} (hh : ∀ id t, lk h id = some t → Rep M w t.1 (rt id) t.2 (fp id)) {g : Operand → AV} {ev : Operand → Value} (hg : ∀ x, AVok M w h rt fp (g x) (ev x)) {parts : List (Nat × Operand)} :
    ∀ {u : Ty} {n : Nat} {fs : List Field} {off : Nat} {zs : List Value} {t : Tree} {ids : List Nat}, FldF P u fs off zs → mkO h g parts u n = some (t, ids) →
      ∀ m s τ, fldSteps u m = some (s, τ) → ∀ x, pk parts (n + m) = some x → (ev x).cells.size = τ.size
  | .pr a b, n, f :: r, off, zs, t, ids, hF, hm, m, s, τ, hs, x, hp => by
      simp only [mkO] at hm
      split at hm
      case h_2 => cases hm
      rename_i x0 y0 hx hy
      obtain ⟨h1, h2, h3, ⟨i, z, q1, q2, q3⟩, h5⟩ := hF
      cases m with
      | zero =>
        simp only [fldSteps, Option.some.injEq, Prod.mk.injEq] at hs
        obtain ⟨_, rfl⟩ := hs
        rw [Nat.add_zero] at hp
        rw [hp] at hx
        obtain ⟨k1, k2, _⟩ := partO_rep (t := x0.1) (ids := x0.2) hh h2 (hg x) hx
        have := k1.len
        rw [k2] at this
        simpa using this
      | succ m =>
        simp only [fldSteps] at hs
        split at hs
        · rename_i q hq
          simp only [Option.some.injEq, Prod.mk.injEq] at hs
          obtain ⟨_, rfl⟩ := hs
          exact mkO_size hh hg (u := b) (n := n + 1) (t := y0.1) (ids := y0.2) h5 hy m q.1 q.2 hq x (by rwa [show n + 1 + m = n + (m + 1) by omega])
        · cases hs
  | .pr _ _, _, [], _, _, _, _, h, _, _, _, _, _, _, _ => h.elim
  | .nil, _, _, _, _, _, _, _, _, _, _, _, hs, _, _ => by cases hs
  | .int _, _, _, _, _, _, _, h, _, _, _, _, _, _, _ => by cases h
  | .bool, _, _, _, _, _, _, h, _, _, _, _, _, _, _ => by cases h
  | .str, _, _, _, _, _, _, h, _, _, _, _, _, _, _ => by cases h
  | .slc _ _, _, _, _, _, _, _, h, _, _, _, _, _, _, _ => by cases h
  | .osl _, _, _, _, _, _, _, h, _, _, _, _, _, _, _ => by cases h
  | .ptr _ _, _, _, _, _, _, _, h, _, _, _, _, _, _, _ => by cases h
  | .optr _, _, _, _, _, _, _, h, _, _, _, _, _, _, _ => by cases h
  | .st _, _, _, _, _, _, _, h, _, _, _, _, _, _, _ => by cases h
  | .blk, _, _, _, _, _, _, h, _, _, _, _, _, _, _ => by cases h

/-- The machine's struct of parts of the right sizes. -/
theorem build_run {T : TypeId} {parts : Array (Nat × Operand)} (ho : o.op = .build T parts) {u : Ty} (hT : isStT E.tt T = some u) (b1 : incr parts.toList 0 = true) (b2 : ∀ q ∈ parts.toList, Nat.blt q.1 (nFlds u) = true)
    (hsz : ∀ m s τ, fldSteps u m = some (s, τ) → ∀ x, pk parts.toList m = some x → (a.eval x).cells.size = τ.size) :
    ∃ fs zs r, FldF E.P u fs 0 zs ∧ (execOp a.eval o).run E.P w = .ok (.value (.agg r)) w ∧ r.toList.length = u.size ∧
      (∀ m s τ, fldSteps u m = some (s, τ) → (∀ x, pk parts.toList (0 + m) = some x → (a.eval x).cells.size = τ.size ∧ (r.toList.drop (0 + fldOff u m)).take τ.size = (a.eval x).cells.toList) ∧ (pk parts.toList (0 + m) = none → (r.toList.drop (0 + fldOff u m)).take τ.size = (zs.drop (fldOff u m)).take τ.size)) := by
  obtain ⟨i, fs, zs, h1, h2, h4, h5, h6, h7⟩ : ∃ i fs zs, E.P.info? T = some i ∧ i.size = u.size ∧ i.zero = some (.agg zs) ∧ E.P.underlying T = some (.struct fs) ∧ FldF E.P u fs.toList 0 zs.toList ∧ zs.size = u.size := by
    unfold isStT at hT
    split at hT
    · rename_i u' hl
      cases hT
      obtain ⟨_, i, fs, zs, q1, q2, _, q4, q5, q6, q7⟩ := E.ok T _ hl
      exact ⟨i, fs, zs, q1, q2, q4, q5, q6, q7⟩
    · cases hT
  have hpl := run_places (P := E.P) w u fs.toList 0 zs.toList h6
  simp only [Nat.zero_add] at hpl
  generalize hpls : ((List.range (nFlds u)).map fun n => (fldOff u n, match fldSteps u n with | some q => q.2.size | none => 0)) = pls at hpl
  have hplace : ∀ n s τ, fldSteps u n = some (s, τ) → n < nFlds u → pls.toArray[n]? = some (fldOff u n, τ.size) := by
    intro n s τ hs hn
    rw [← hpls]
    simp [hn, hs]
  obtain ⟨r, r1, r2, r3, r4⟩ := fill_ok (fun i => pls.toArray[i]?) (parts.toList.map fun q => (q.1, a.eval q.2)) zs (by
    intro q hq
    obtain ⟨p, hp, rfl⟩ := List.mem_map.1 hq
    have hlt : p.1 < nFlds u := Nat.le_of_ble_eq_true (b2 p hp)
    obtain ⟨s, τ, hs⟩ := nFlds_lt h6 p.1 hlt
    refine ⟨_, _, hplace _ _ _ hs hlt, hsz _ _ _ hs p.2 ?_, by rw [h7]; exact fldSteps_le hs⟩
    exact incr_lk b1 hp) (by
    rw [List.pairwise_map]
    refine (incr_pw b1).imp_of_mem ?_
    intro q q' hq hq' hlt o1 s1 o2 s2 e1 e2
    have l1 : q.1 < nFlds u := Nat.le_of_ble_eq_true (b2 q hq)
    have l2 : q'.1 < nFlds u := Nat.le_of_ble_eq_true (b2 q' hq')
    obtain ⟨sa, ta, ha⟩ := nFlds_lt h6 q.1 l1
    obtain ⟨sb, tb, hb⟩ := nFlds_lt h6 q'.1 l2
    rw [hplace _ _ _ ha l1] at e1
    rw [hplace _ _ _ hb l2] at e2
    cases e1; cases e2
    exact .inl (fldOff_mono ha hb hlt))
  have hrl : r.toList.length = u.size := by simp [r2, h7]
  refine ⟨fs.toList, zs.toList, r, h6, ?_, hrl, ?_⟩
  · have hpm : (Array.map (fun x => (x.fst, a.eval x.snd)) parts).toList = parts.toList.map fun q => (q.1, a.eval q.2) := by simp
    have hpl' : (fs.mapM fun f => do Pure.pure (f.offset, ← sizeOf f.type) : Sem (Array (Nat × Nat))).run E.P w = .ok pls.toArray w := by
      rw [Array.mapM_eq_mapM_toList, Sem.run_map, hpl]; rfl
    have hz : (zeroValue T).run E.P w = .ok (.agg zs) w := by simp [zeroValue, typeInfo, h1, h4]
    simp only [execOp, ho, Instr.build, Sem.run_bind, hz, run_underlying h5, Result.andThen_ok, hpl', hpm, Value.cells, r1]
    rfl
  · intro m s τ hs
    have hm : m < nFlds u := fldSteps_lt hs
    simp only [Nat.zero_add]
    have hle := fldSteps_le hs
    refine ⟨fun x hx => ?_, fun hx => ?_⟩
    · have hmem := lk_mem hx
      have hz := hsz m s τ hs x hx
      refine ⟨hz, ?_⟩
      apply List.ext_getElem?
      intro j
      rcases Nat.lt_or_ge j τ.size with hj | hj
      · obtain ⟨v, hv⟩ : ∃ v, (a.eval x).cells[j]? = some v := ⟨_, Array.getElem?_eq_getElem (by omega)⟩
        have := r4 (m, a.eval x) (List.mem_map.2 ⟨(m, x), hmem, rfl⟩) _ _ (hplace _ _ _ hs hm) j v hv
        rw [List.getElem?_take_of_lt hj, List.getElem?_drop]
        simp only [Array.getElem?_toList]
        rw [this, hv]
      · rw [List.getElem?_eq_none (by simp; omega), List.getElem?_eq_none (by simp; omega)]
    · apply List.ext_getElem?
      intro j
      rcases Nat.lt_or_ge j τ.size with hj | hj
      · rw [List.getElem?_take_of_lt hj, List.getElem?_take_of_lt hj, List.getElem?_drop, List.getElem?_drop]
        simp only [Array.getElem?_toList]
        refine r3 _ ?_
        intro q hq o1 s1 e1
        obtain ⟨p, hp, rfl⟩ := List.mem_map.1 hq
        have hne := lk_none hx p hp
        have l1 : p.1 < nFlds u := Nat.le_of_ble_eq_true (b2 p hp)
        obtain ⟨sa, ta, ha⟩ := nFlds_lt h6 p.1 l1
        rw [hplace _ _ _ ha l1] at e1
        cases e1
        rcases Nat.lt_or_gt_of_ne hne with hlt | hgt
        · have := fldOff_mono ha hs hlt; omega
        · have := fldOff_mono hs ha hgt; omega
      · rw [List.getElem?_eq_none (by simp; omega), List.getElem?_eq_none (by simp; omega)]

/-- What distinct trees own. -/
theorem RelAt.fps {tm : Array Value} (hR : RelAt C st tm w I rt fp) : ∀ {ids : List Nat}, ids.Nodup → (∀ id ∈ ids, ∃ u, lk st.h id = some u) → (ids.map fp).flatten.Nodup
  | [], _, _ => by simp
  | i :: ids, hn, hh => by
      obtain ⟨h1, h2⟩ := List.nodup_cons.1 hn
      obtain ⟨u, hu⟩ := hh i (by simp)
      simp only [List.map_cons, List.flatten_cons]
      refine List.nodup_append.2 ⟨(hR.tree i u hu).2.1, RelAt.fps hR h2 (fun id hid => hh id (by simp [hid])), fun b hb c hc e => ?_⟩
      subst e
      obtain ⟨l, hl, hbl⟩ := List.mem_flatten.1 hc
      obtain ⟨j, hj, rfl⟩ := List.mem_map.1 hl
      obtain ⟨v, hv⟩ := hh j (by simp [hj])
      exact hR.dis i j u v hu hv (fun e => h1 (e ▸ hj)) b hb hbl

theorem mem_fps {ids : List Nat} {b : Nat} (hb : b ∈ (ids.map fp).flatten) : ∃ id ∈ ids, b ∈ fp id := by
  obtain ⟨l, hl, hbl⟩ := List.mem_flatten.1 hb
  obtain ⟨j, hj, rfl⟩ := List.mem_map.1 hl
  exact ⟨j, hj, hbl⟩

/-- A struct value. -/
def bldE {β : Type} (tt : List (TypeId × Ty)) (h : List (Nat × Tree)) (g : Operand → AV) (d : Nat) (T : TypeId) (parts : List (Nat × Operand)) (K : Eff → Option β) : Option β :=
  match isStT tt T with
  | none => none
  | some u => bif incr parts 0 && parts.all (fun q => Nat.blt q.1 (nFlds u)) then match mkSt g parts u 0 with
      | some t => K ⟨some (d, .val (.st t.1) t.2), [], [], []⟩
      | none => match lk h d, mkO h g parts u 0 with
        | none, some (t, ids) => bif nodupB ids then K ⟨some (d, .ref d []), ids, [], [(d, ⟨.st t.1, t.2⟩)]⟩ else none
        | _, _ => none
    else none

theorem bldE_ok {β : Type} {r : β} {K : Eff → Option β} {d : Nat} {T : TypeId} {parts : Array (Nat × Operand)} (ho : o.op = .build T parts) (hd : o.dst = some d) (hdn : C.ok d) (h : bldE E.tt st.h (opA st.g) d T parts.toList K = some r)
    (hq : ∀ e, K e = some r → Q (e.app st)) : OK1 E C o st Q := by
  unfold bldE at h
  split at h
  · cases h
  rename_i u hT
  cases hb : (incr parts.toList 0 && parts.toList.all (fun q => Nat.blt q.1 (nFlds u))) with
  | false => rw [hb] at h; cases h
  | true =>
  rw [hb] at h
  simp only [cond_true] at h
  split at h
  · rename_i t ht
    refine OK1.eval (an := []) hd hdn ?_
    rw [ho]
    simp only [evalF, bldF, hT, hb, cond_true, ht]
    exact hq _ h
  split at h
  case h_2 => cases h
  rename_i t ids hdn0 ht
  cases hnd : nodupB ids with
  | false => rw [hnd] at h; cases h
  | true =>
  rw [hnd] at h
  simp only [Bool.and_eq_true, List.all_eq_true] at hb
  obtain ⟨b1, b2⟩ := hb
  rintro a w ⟨I, rt, fp, hR⟩ next X hnext
  have hh : ∀ id t, lk st.h id = some t → Rep (md I C.B) w t.1 (rt id) t.2 (fp id) := fun id t ht => (hR.tree id t ht).1
  obtain ⟨fs, zs, rr, hF, hrun, hrl, hc⟩ := build_run (a := a) (w := w) ho hT b1 b2 (by
    obtain ⟨fs, zs, _, q⟩ := isStT.ok hT
    intro m s τ hs x hp
    exact mkO_size hh (fun x => hR.opA x) q ht m s τ hs x (by rwa [Nat.zero_add]))
  obtain ⟨g1, g2, g3⟩ := mkO_rep hh (fun x => hR.opA x) (cells := rr.toList) hF ht (by omega) hc
  rw [List.drop_zero] at g1
  refine OK1.own (S := ids) (t := ⟨.st t.1, t.2⟩) (cs := rr.toList) (f := (ids.map fp).flatten) hd hdn hR hnext (.inr hdn0) hrun (Grew.refl w) rfl g1 (hR.fps (nodupB.ok hnd) g3) (fun b hb => ?_) ?_
  · obtain ⟨id, hid, hb⟩ := mem_fps hb
    obtain ⟨u, hu⟩ := g3 id hid
    exact .inr ⟨id, hid, u, hu, hb⟩
  · have := hq _ h
    rw [show (Eff.mk (some (d, .ref d [])) ids [] [(d, ⟨.st t.1, t.2⟩)]).app st = ⟨(d, .ref d []) :: kill ids [] st.g, (d, ⟨.st t.1, t.2⟩) :: del ids st.h⟩ by
      show St.mk ((d, _) :: killE ids [] st.g) ([_] ++ delE ids st.h) = _
      rw [killE_eq, delE_eq]; rfl] at this
    exact this

/-- A pointer to a new variable that holds a value or what was owned; where 'an' says so, the variable stays as it is for good. -/
def boxE {β : Type} (tt : List (TypeId × Ty)) (an : List (Nat × Ty)) (h : List (Nat × Tree)) (d : Nat) (T : TypeId) (x : AV) (K : Eff → Option β) : Option β :=
  match lk tt T, lk h d with
  | some u, none => match x with
    | .val τ x => bif sameLay u τ then match lk an d with
        | some (.ptr .imm _) => K ⟨some (d, .val (.ptr .imm τ) (some x)), [], [], []⟩
        | _ => K ⟨some (d, .ref d []), [], [], [(d, ⟨.optr τ, x⟩)]⟩
      else none
    | .ref id [] => match lk h id with
      | some t => bif sameLay u t.1 then K ⟨some (d, .ref d []), [id], [], [(d, ⟨.optr t.1, t.2⟩)]⟩ else none
      | none => none
    | _ => none
  | _, _ => none

theorem boxE_ok {β : Type} {r : β} {K : Eff → Option β} {an : List (Nat × Ty)} {d : Nat} {T : TypeId} {x : Operand} (ho : o.op = .box T x) (hd : o.dst = some d) (hdn : C.ok d) (h : boxE E.tt an st.h d T (opA st.g x) K = some r)
    (hq : ∀ e, K e = some r → Q (e.app st)) : OK1 E C o st Q := by
  unfold boxE at h
  split at h
  case h_2 => cases h
  rename_i u hT hdn0
  split at h
  · rename_i τ y ex
    cases hb : sameLay u τ with
    | false => rw [hb] at h; cases h
    | true =>
    rw [hb] at h
    simp only [cond_true] at h
    split at h
    · rintro a w ⟨I, rt, fp, hR⟩ next X hnext
      have hx := hR.opA x
      rw [ex] at hx
      have hf := (E.ok T u hT).lay hb
      generalize hv : a.eval x = v at hx
      cases hx with | val rr =>
      rename_i cs
      have hM : ∀ m b, md I C.B m b → Sm w (w.alloc (.cells cs.toArray T)) b := fun m b hb => .of_heap ((Grew.alloc w _).heap b (hR.ib b (md_or hb)))
      have hyield : Yields E C st a w I rt fp o (fun av new => Q ⟨(d, av) :: st.g, new ++ st.h⟩) := by
        refine ⟨.pointer (some ⟨w.heap.size, 0, none⟩), w.alloc (.cells cs.toArray T), fun b => I b ∨ b = w.heap.size, fun _ => [], fun _ => [], .val (.ptr .imm τ) (some y), [], ?_, Grew.alloc w _, fun _ h => .inl h, ?_, .nil, ?_, hq _ h⟩
        · simp [execOp, ho, hv, Instr.box, newVar, newRow, regV_cells hf rr.len rr.one]
        · rintro b (h | rfl)
          · exact .inl h
          · exact .inr ⟨Nat.le_refl _, by simp⟩
        · refine .val (τ := .ptr .imm τ) (x := some y) (cs := [.pointer (some ⟨w.heap.size, 0, none⟩)]) ⟨rfl, w.heap.size, 0, cs, rfl, .inr rfl, rr.len, At.alloc (fun j v hj => by simpa using hj), ?_⟩
          refine rr.mono (fun m b hb => ⟨?_, hM m b hb⟩) (by simp)
          cases m
          · exact .inl hb
          · exact hb.imp .inl (fun h => h)
      exact hyield.wp hR hd hdn (fun av new a' w' hq' hdf hr => hnext _ a' w' hq' hdf hr)
    · refine OK1.eval (an := []) hd hdn ?_
      rw [ho]
      simp only [evalF, boxF, hT, hdn0, ex, hb, cond_true]
      exact hq _ h
  · rename_i id ex
    split at h
    case h_2 => cases h
    rename_i t ht
    cases hb : sameLay u t.1 with
    | false => rw [hb] at h; cases h
    | true =>
    rw [hb] at h
    rintro a w ⟨I, rt, fp, hR⟩ next X hnext
    have hx := hR.opA x
    rw [ex] at hx
    obtain ⟨r1, r2, r3⟩ := hR.tree id t ht
    have hf := (E.ok T u hT).lay hb
    generalize hv : a.eval x = v at hx
    cases hx with | ref ht' hn =>
    rw [ht] at ht'; cases ht'
    obtain ⟨rfl, rfl, rfl⟩ := Nav.nil_iff.1 hn
    have hM : ∀ b, b < w.heap.size → Sm w (w.alloc (.cells (rt id).toArray T)) b := fun b hb => .of_heap ((Grew.alloc w _).heap b hb)
    have r1' : Rep (md I C.B) (w.alloc (.cells (rt id).toArray T)) t.1 (rt id) t.2 (fp id) := r1.mono (fun m b hb => ⟨hb, hM b (hR.ib b (md_or hb))⟩) (fun b hb => hM b (r3 b hb).2.2.1)
    refine OK1.own (S := [id]) (t := ⟨.optr t.1, t.2⟩) (cs := [.pointer (some ⟨w.heap.size, 0, none⟩)]) (f := w.heap.size :: fp id) (v := .pointer (some ⟨w.heap.size, 0, none⟩)) (w' := w.alloc (.cells (rt id).toArray T)) hd hdn hR hnext (.inr hdn0) ?_ (Grew.alloc w _) rfl
      ⟨w.heap.size, 0, fp id, rt id, rfl, rfl, r1.len, At.alloc (fun j v hj => by simpa using hj), Fr.alloc (by simp [r1.len]), r1'⟩ (List.nodup_cons.2 ⟨fun hm => Nat.lt_irrefl _ (r3 _ hm).2.2.1, r2⟩) ?_ ?_
    · simp [execOp, ho, hv, Instr.box, newVar, newRow, regV_cells hf r1.len r1.one]
    · intro b hb
      rcases List.mem_cons.1 hb with rfl | hb
      · exact .inl ⟨Nat.le_refl _, by simp⟩
      · exact .inr ⟨id, by simp, t, ht, hb⟩
    · have := hq _ h
      rw [show (Eff.mk (some (d, .ref d [])) [id] [] [(d, ⟨.optr t.1, t.2⟩)]).app st = ⟨(d, .ref d []) :: kill [id] [] st.g, (d, ⟨.optr t.1, t.2⟩) :: del [id] st.h⟩ from rfl] at this
      exact this
  · cases h

/-- An element of a slice literal: a value, or a tree. -/
def coeO (h : List (Nat × Tree)) (t : Ty) (x : AV) : Option (t.den × List Nat) :=
  match x with
  | .ref id [] => match lk h id with
    | some τx => match castT t τx.2 with
      | some y => some (y, [id])
      | none => none
    | none => none
  | x => match coe t x with
    | some y => some (y, [])
    | none => none

def coesO (h : List (Nat × Tree)) (t : Ty) : List AV → Option (List t.den × List (List Nat))
  | [] => some ([], [])
  | x :: r => match coeO h t x, coesO h t r with
    | some y, some l => some (y.1 :: l.1, y.2 :: l.2)
    | _, _ => none

theorem coeO_rep {M : Md → Nat → Prop} {h : List (Nat × Tree)} (hh : ∀ id t, lk h id = some t → Rep M w t.1 (rt id) t.2 (fp id)) {t : Ty} {T : TypeId} (hT : TyF E.P t T) {x : AV} {v : Value} (hx : AVok M w h rt fp x v) {y : t.den} {ids : List Nat}
    (hc : coeO h t x = some (y, ids)) : Rep M w t v.cells.toList y (ids.map fp).flatten ∧ ∀ id ∈ ids, ∃ u, lk h id = some u := by
  unfold coeO at hc
  split at hc
  · rename_i id
    split at hc
    case h_2 => cases hc
    rename_i τx ht
    split at hc
    case h_2 => cases hc
    rename_i y' hy
    cases hc
    obtain ⟨τ, x⟩ := τx
    have he := castT_some hy
    cases he
    cases hx with | ref ht' hn =>
    rw [ht] at ht'; cases ht'
    obtain ⟨rfl, rfl, rfl⟩ := Nav.nil_iff.1 hn
    have r := hh id _ ht
    rw [regV_cells hT r.len r.one]
    refine ⟨by simpa using r, fun i hi => ?_⟩
    rw [List.mem_singleton] at hi
    subst hi
    exact ⟨_, ht⟩
  · split at hc
    · rename_i y' hy
      cases hc
      exact ⟨coe_rep hT hx hy, by simp⟩
    · cases hc

theorem coesO_get {h : List (Nat × Tree)} {t : Ty} : ∀ {l : List AV} {xs : List t.den} {is : List (List Nat)}, coesO h t l = some (xs, is) → xs.length = l.length ∧ is.length = l.length ∧ ∀ (i : Nat) (x : t.den), xs[i]? = some x → ∃ (y : AV) (q : List Nat), l[i]? = some y ∧ is[i]? = some q ∧ coeO h t y = some (x, q)
  | [], xs, is, hc => by cases hc; exact ⟨rfl, rfl, fun i x h => by simp at h⟩
  | y :: l, xs, is, hc => by
      simp only [coesO] at hc
      split at hc
      · rename_i z r hz hr
        cases hc
        obtain ⟨h1, h2, h3⟩ := coesO_get (xs := r.1) (is := r.2) hr
        refine ⟨by simp [h1], by simp [h2], fun i x hi => ?_⟩
        cases i with
        | zero => simp only [List.getElem?_cons_zero, Option.some.injEq] at hi; subst hi; exact ⟨y, z.2, rfl, rfl, hz⟩
        | succ i => simpa using h3 i x (by simpa using hi)
      · cases hc

/-- A slice literal. -/
def bslE {β : Type} (tt : List (TypeId × Ty)) (an : List (Nat × Ty)) (h : List (Nat × Tree)) (g : Operand → AV) (d : Nat) (T : TypeId) (n : Nat) (parts : List (Nat × Operand)) (K : Eff → Option β) : Option β :=
  match isSlcT tt T, lk h d with
  | some u, none =>
    match (match lk an d with | some (.osl t) => t | _ => u) with
    | t => bif sameLay u t && Nat.ble t.size 2000 && Nat.ble n 1000 && seqFrom parts 0 && Nat.beq parts.length n then
      match coes t (parts.map fun q => g q.2) with
      | some xs => K ⟨some (d, .ref d []), [], [], [(d, ⟨.osl t, xs⟩)]⟩
      | none => match coesO h t (parts.map fun q => g q.2) with
        | some q => bif nodupB q.2.flatten then K ⟨some (d, .ref d []), q.2.flatten, [], [(d, ⟨.osl t, q.1⟩)]⟩ else none
        | none => none
    else none
  | _, _ => none

theorem bslE_ok {β : Type} {r : β} {K : Eff → Option β} {an : List (Nat × Ty)} {d : Nat} {T : TypeId} {n : Nat} {parts : Array (Nat × Operand)} (ho : o.op = .buildSlice T n parts) (hd : o.dst = some d) (hdn : C.ok d)
    (h : bslE E.tt an st.h (opA st.g) d T n parts.toList K = some r) (hq : ∀ e, K e = some r → Q (e.app st)) : OK1 E C o st Q := by
  unfold bslE at h
  split at h
  case h_2 => cases h
  rename_i u hT hdn0
  generalize ht : (match lk an d with | some (.osl t) => t | _ => u) = t at h
  simp only at h
  cases hb : (sameLay u t && Nat.ble t.size 2000 && Nat.ble n 1000 && seqFrom parts.toList 0 && Nat.beq parts.toList.length n) with
  | false => rw [hb] at h; cases h
  | true =>
  rw [hb] at h
  simp only [cond_true] at h
  split at h
  · rename_i xs hxs
    refine OK1.eval (an := an) hd hdn ?_
    rw [ho]
    simp only [evalF, bslF, hT, hdn0]
    cases hl : lk an d with
    | none =>
      rw [hl] at ht
      simp only at ht
      subst ht
      simp only [hb, cond_true, hxs]
      exact hq _ h
    | some q =>
      rw [hl] at ht
      cases q <;> (simp only at ht; subst ht; simp only [hb, cond_true, hxs]; exact hq _ h)
  split at h
  case h_2 => cases h
  rename_i q hq0
  obtain ⟨xs, is⟩ := q
  cases hnd : nodupB is.flatten with
  | false => rw [hnd] at h; cases h
  | true =>
  rw [hnd] at h
  rintro a w ⟨I, rt, fp, hR⟩ next X hnext
  have hh : ∀ id t, lk st.h id = some t → Rep (md I C.B) w t.1 (rt id) t.2 (fp id) := fun id t ht => (hR.tree id t ht).1
  simp only [Bool.and_eq_true] at hb
  obtain ⟨⟨⟨⟨b1, b2⟩, b3⟩, b4⟩, b5⟩ := hb
  have b2 := Nat.le_of_ble_eq_true b2
  have b3 := Nat.le_of_ble_eq_true b3
  have b5 : parts.toList.length = n := Nat.eq_of_beq_eq_true b5
  obtain ⟨j, S, _, h5, h6⟩ := isSlcT.ok hT
  have h6' := h6.lay b1
  obtain ⟨i, dd, q5, _⟩ := h6'.info
  have hpos := h6'.pos
  obtain ⟨c1, c0, c2⟩ := coesO_get hq0
  simp only [List.length_map] at c1 c0
  have hxn : xs.length = n := by omega
  have hlen : n * t.size ≤ 16777216 := by
    have : n * t.size ≤ 1000 * 2000 := Nat.mul_le_mul b3 b2
    omega
  -- each element's cells
  have hel : ∀ (k : Nat) (q : Nat × Operand), parts.toList[k]? = some q → ∃ (x : t.den) (ids : List Nat), xs[k]? = some x ∧ is[k]? = some ids ∧ Rep (md I C.B) w t (a.eval q.2).cells.toList x (ids.map fp).flatten ∧ ∀ id ∈ ids, ∃ u, lk st.h id = some u := by
    intro k q hk
    have hkl : k < xs.length := by have := (List.getElem?_eq_some_iff.1 hk).1; omega
    obtain ⟨y, ids, e1, e3, e2⟩ := c2 k xs[k] (by simp)
    rw [List.getElem?_map, hk] at e1
    simp only [Option.map_some, Option.some.injEq] at e1
    subst e1
    obtain ⟨k1, k2⟩ := coeO_rep hh h6' (hR.opA q.2) e2
    exact ⟨xs[k], ids, by simp, e3, k1, k2⟩
  have hids : ∀ id ∈ is.flatten, ∃ u, lk st.h id = some u := by
    intro id hid
    obtain ⟨l, hl, hil⟩ := List.mem_flatten.1 hid
    obtain ⟨k, hk, rfl⟩ := List.mem_iff_getElem.1 hl
    have hk' : parts.toList[k]? = some (parts.toList[k]'(by omega)) := List.getElem?_eq_getElem _
    obtain ⟨x, ids, _, e, _, hu⟩ := hel k _ hk'
    rw [List.getElem?_eq_getElem hk] at e
    cases e
    exact hu id hil
  obtain ⟨iz, hiz0, hiz1⟩ : ∃ zc : Array Value, (n * t.size = 0 → zc = #[]) ∧ (n * t.size ≠ 0 → ∃ zz, (zeroValue S).run E.P w = .ok zz w ∧ zc = zz.cells) := by
    by_cases h0 : n * t.size = 0
    · exact ⟨#[], fun _ => rfl, fun h => absurd h0 h⟩
    · obtain ⟨zz, _, hzz⟩ := TyF.hasZero h6'
      exact ⟨zz.cells, fun h => absurd h h0, fun _ => ⟨zz, by simp [zeroValue, typeInfo, q5.info, hzz i q5.info], rfl⟩⟩
  obtain ⟨rr, r1, r2, r3, r4⟩ := fill_ok (fun i => some (i * t.size, t.size)) (parts.toList.map fun q => (q.1, a.eval q.2)) ((Array.range (n * t.size)).map (iz[· % iz.size]!)) (by
    intro q hq
    obtain ⟨p, hp, rfl⟩ := List.mem_map.1 hq
    obtain ⟨k, hk, rfl⟩ := List.mem_iff_getElem.1 hp
    have hk' : parts.toList[k]? = some parts.toList[k] := by simp
    obtain ⟨x, _, _, _, hx, _⟩ := hel k _ hk'
    have e := seqFrom_get b4 k _ hk'
    have : (k + 1) * t.size ≤ n * t.size := Nat.mul_le_mul_right _ (by omega)
    rw [Nat.add_mul, Nat.one_mul] at this
    refine ⟨_, _, rfl, by have := hx.len; simpa using this, ?_⟩
    simp only [Array.size_map, Array.size_range]
    rw [e, Nat.zero_add]
    exact this) (by
    rw [List.pairwise_iff_getElem]
    intro k l hk hl hkl o1 s1 o2 s2 e1 e2
    simp only [List.getElem_map, Option.some.injEq, Prod.mk.injEq] at e1 e2
    simp only [List.length_map] at hk hl
    have f1 := seqFrom_get b4 k parts.toList[k] (by simp)
    have f2 := seqFrom_get b4 l parts.toList[l] (by simp)
    obtain ⟨rfl, rfl⟩ := e1
    obtain ⟨rfl, rfl⟩ := e2
    left
    rw [f1, f2]
    have : (0 + k + 1) * t.size ≤ (0 + l) * t.size := Nat.mul_le_mul_right _ (by omega)
    rw [Nat.add_mul, Nat.one_mul] at this
    exact this)
  have hrs : rr.size = n * t.size := by rw [r2]; simp
  have hM : ∀ b, b < w.heap.size → Sm w (w.alloc (.cells rr S)) b := fun b hb => .of_heap ((Grew.alloc w _).heap b hb)
  have hfl : (is.map fun ids => (ids.map fp).flatten).flatten = (is.flatten.map fp).flatten := by
    clear hel hids c2 hnd h hq0 c0
    induction is with
    | nil => rfl
    | cons x l ih => simp only [List.map_cons, List.flatten_cons, ih, List.map_append, List.flatten_append]
  have hlt : ∀ b ∈ (is.flatten.map fp).flatten, b < w.heap.size ∧ ∃ id ∈ is.flatten, ∃ u, lk st.h id = some u ∧ b ∈ fp id := by
    intro b hb
    obtain ⟨id, hid, hb⟩ := mem_fps hb
    obtain ⟨u, hu⟩ := hids id hid
    exact ⟨((hR.tree id u hu).2.2 b hb).2.2.1, id, hid, u, hu, hb⟩
  refine OK1.own (S := is.flatten) (t := ⟨.osl t, xs⟩) (cs := [.slice (some ⟨w.heap.size, 0, none⟩) n n]) (f := w.heap.size :: (is.flatten.map fp).flatten) (v := .slice (some ⟨w.heap.size, 0, none⟩) n n) (w' := w.alloc (.cells rr S)) hd hdn hR hnext (.inr hdn0) ?_ (Grew.alloc w _) rfl ?_
    (List.nodup_cons.2 ⟨fun hm => Nat.lt_irrefl _ (hlt _ hm).1, hR.fps (nodupB.ok hnd) hids⟩) ?_ ?_
  · have hsz := h6'.sizeOf w
    have hnb : ¬ (16777216 < n * t.size) := by omega
    have hpm : (Array.map (fun x => (x.fst, a.eval x.snd)) parts).toList = parts.toList.map fun q => (q.1, a.eval q.2) := by simp
    simp only [execOp, ho, Instr.buildSlice, Sem.run_bind, run_underlying h5, Result.andThen_ok, hsz]
    rw [if_neg (by omega)]
    by_cases h0 : n * t.size = 0
    · rw [if_pos h0]
      obtain rfl := hiz0 h0
      rw [hpm]
      simp only [Sem.run_bind, Sem.run_pure, Result.andThen_ok, r1, newRow, newObj]
      rfl
    · rw [if_neg h0]
      obtain ⟨zz, hz1, rfl⟩ := hiz1 h0
      rw [hpm]
      simp only [Sem.run_bind, Sem.run_pure, Result.andThen_ok, hz1, r1, newRow, newObj]
      rfl
  · refine ⟨some ⟨w.heap.size, 0, none⟩, n, by rw [hxn], .inr ⟨w.heap.size, 0, is.map fun ids => (ids.map fp).flatten, rfl, by rw [hfl], by simp; omega, (by show xs.length ≤ n; omega), Fr.alloc (by rw [hrs]; omega), fun k x g hx hg => ?_⟩⟩
    have hk : k < n := by have : k < xs.length := (List.getElem?_eq_some_iff.1 hx).1; omega
    have hk' : parts.toList[k]? = some (parts.toList[k]'(by omega)) := by simp
    obtain ⟨x', ids, hx', hi', hrep, hu⟩ := hel k _ hk'
    rw [hx] at hx'
    obtain rfl := Option.some.inj hx'
    rw [List.getElem?_map, hi'] at hg
    obtain rfl := Option.some.inj hg
    refine ⟨_, hrep.len, At.alloc (fun j v hj => ?_), hrep.mono (fun m b hb => ⟨hb, hM b (hR.ib b (md_or hb))⟩) (fun b hb => ?_)⟩
    · have := r4 (parts.toList[k].1, a.eval parts.toList[k].2) (List.mem_map.2 ⟨parts.toList[k], List.getElem_mem _, rfl⟩) _ _ rfl j v (by simpa using hj)
      have e := seqFrom_get b4 k _ hk'
      rw [e, Nat.zero_add] at this
      simpa using this
    · obtain ⟨id, hid, hb⟩ := mem_fps hb
      obtain ⟨u, hu⟩ := hu id hid
      exact hM b ((hR.tree id u hu).2.2 b hb).2.2.1
  · intro b hb
    rcases List.mem_cons.1 hb with rfl | hb
    · exact .inl ⟨Nat.le_refl _, by simp⟩
    · obtain ⟨_, id, hid, u, hu, hb⟩ := hlt b hb
      exact .inr ⟨id, hid, u, hu, hb⟩
  · have := hq _ h
    rw [show (Eff.mk (some (d, .ref d [])) is.flatten [] [(d, ⟨.osl t, xs⟩)]).app st = ⟨(d, .ref d []) :: kill is.flatten [] st.g, (d, ⟨.osl t, xs⟩) :: del is.flatten st.h⟩ by
      show St.mk ((d, _) :: killE _ [] st.g) ([_] ++ delE _ st.h) = _
      rw [killE_eq, delE_eq]; rfl] at this
    exact this
end
end Go.Fw
