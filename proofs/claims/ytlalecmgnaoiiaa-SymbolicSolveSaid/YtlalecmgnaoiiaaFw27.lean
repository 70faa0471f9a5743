/-
  The framework, part 27 (before 24): what is kept: slots that are not written stay as they are.
-/
import Derived.Test.YtlalecmgnaoiiaaFw26
namespace Go.Fw

/-- Slots that are pinned and hold values that last. -/
def KG (C : Ctx) (kg : List (Nat × AV)) : Prop :=
  (∀ b, C.I0 b ∨ C.B b → b < C.w0.heap.size ∧ ¬ C.F0 b) ∧
  ∀ q ∈ kg, q.1 ∈ C.pin ∧ ∃ τ x cs, q.2 = .val τ x ∧ C.vs q.1 = regV τ cs ∧ Rep (md C.I0 C.B) C.w0 τ cs x []

section
variable {E : Env} {C : Ctx}

theorem KG.nil (h : ∀ b, C.I0 b ∨ C.B b → b < C.w0.heap.size ∧ ¬ C.F0 b) : KG C [] := ⟨h, fun q h => by cases h⟩

theorem gt_append (l g : List (Nat × AV)) (k : Nat) : gt (l ++ g) k = match lk l k with | some v => v | none => gt g k := by
  unfold gt
  rw [lk_append]
  cases lk l k <;> rfl

theorem lk_mem' {α : Type} : ∀ {l : List (Nat × α)} {k : Nat} {v : α}, lk l k = some v → (k, v) ∈ l
  | [], _, _, h => by cases h
  | (k0, v0) :: l, k, v, h => by
      rw [lk_cons] at h
      split at h
      · rename_i e; cases h; subst e; exact List.mem_cons_self ..
      · exact List.mem_cons_of_mem _ (lk_mem' h)

theorem Rel.kg {kg : List (Nat × AV)} (hk : KG C kg) {st : St} {tm : Array Value} {w : World} (h : Rel C st tm w) : Rel C ⟨kg ++ st.g, st.h⟩ tm w := by
  obtain ⟨I, rt, fp, hR⟩ := h
  refine ⟨I, rt, fp, { hR with tmp := fun k => ?_ }⟩
  show AVok _ _ _ _ _ (gt (kg ++ st.g) k) _
  rw [gt_append]
  split
  · rename_i av hl
    obtain ⟨h1, τ, x, cs, h2, h3, h4⟩ := hk.2 _ (lk_mem' hl)
    have h2 : av = .val τ x := h2
    rw [h2, hR.pin k h1, h3]
    refine .val (h4.mono (fun m b hm => ?_) (by simp))
    have hb : C.I0 b ∨ C.B b := md_or hm
    obtain ⟨q1, q2⟩ := hk.1 b hb
    refine ⟨?_, Sm.of_heap (hR.frame b q1 q2)⟩
    cases m
    · exact hR.i0 b hm
    · exact hm.imp (hR.i0 b) id
  · exact hR.tmp k

theorem J.kg {kg : List (Nat × AV)} (hk : KG C kg) {c : Code} {st : St} {Q : Exit → St → Prop} (h : J E C c ⟨kg ++ st.g, st.h⟩ Q) : J E C c st Q :=
  fun a w hR hd => h a w (hR.kg hk) hd

/-- The values of slots. -/
def keepG (g : List (Nat × AV)) : List Nat → Option (List (Nat × AV))
  | [] => some []
  | k :: l => match gt g k with
    | .val τ x => (keepG g l).map fun r => (k, .val τ x) :: r
    | _ => none

theorem keepG_ok {g : List (Nat × AV)} : ∀ {l : List Nat} {r : List (Nat × AV)}, keepG g l = some r → ∀ q ∈ r, q.1 ∈ l ∧ ∃ τ x, q.2 = .val τ x ∧ gt g q.1 = .val τ x
  | [], r, h, q, hq => by cases h; cases hq
  | k :: l, r, h, q, hq => by
      simp only [keepG] at h
      split at h
      case h_2 => cases h
      rename_i τ x hx
      obtain ⟨r', hr, rfl⟩ := Option.map_eq_some_iff.1 h
      rcases List.mem_cons.1 hq with rfl | hq
      · exact ⟨List.mem_cons_self .., τ, x, rfl, hx⟩
      · obtain ⟨h1, h2⟩ := keepG_ok hr q hq
        exact ⟨List.mem_cons_of_mem _ h1, h2⟩

theorem J.keep {c : Code} {st : St} {kg r : List (Nat × AV)} {kp : List Nat} {Q : Exit → St → Prop} (hk : KG C kg) (hr : keepG st.g kp = some r)
    (h : ∀ C' : Ctx, C'.n = C.n → C'.pin = kp ++ C.pin → KG C' (r ++ kg) → J E C' c st Q) : J E C c st Q := by
  rintro a w ⟨I, rt, fp, hR⟩ hd
  let C' : Ctx := { I0 := I, B := C.B, F0 := fun b => ∃ id t, lk st.h id = some t ∧ b ∈ fp id, w0 := w, n := C.n, pin := kp ++ C.pin, vs := fun k => a.tmps.getD k undef }
  have hR' : RelAt C' st a.tmps w I rt fp :=
    { n := hR.n, i0 := fun _ h => h, i1 := fun _ h => .inl h, ib := hR.ib,
      tree := fun id t ht => ⟨(hR.tree id t ht).1, (hR.tree id t ht).2.1, fun b hb => ⟨((hR.tree id t ht).2.2 b hb).1, ((hR.tree id t ht).2.2 b hb).2.1, ((hR.tree id t ht).2.2 b hb).2.2.1, .inr ⟨id, t, ht, hb⟩⟩⟩,
      dis := hR.dis, tmp := hR.tmp, frame := fun _ _ _ => rfl, size := Nat.le_refl _, os := rfl, tape := rfl, output := rfl, pin := fun k _ => rfl }
  have hkg : KG C' (r ++ kg) := by
    refine ⟨fun b hb => ⟨hR.ib b hb, ?_⟩, fun q hq => ?_⟩
    · rintro ⟨id, t, ht, hbf⟩
      obtain ⟨q1, q2, _⟩ := (hR.tree id t ht).2.2 b hbf
      exact hb.elim q1 q2
    · rcases List.mem_append.1 hq with hq | hq
      · obtain ⟨h1, τ, x, h2, h3⟩ := keepG_ok hr q hq
        refine ⟨List.mem_append.2 (.inl h1), τ, x, ?_⟩
        have := hR.tmp q.1
        rw [h3] at this
        show ∃ cs, q.2 = _ ∧ a.tmps.getD q.1 undef = _ ∧ _
        generalize a.tmps.getD q.1 undef = v at this
        cases this with | val rr => exact ⟨_, h2, rfl, rr⟩
      · obtain ⟨h1, τ, x, cs, h2, h3, h4⟩ := hk.2 q hq
        refine ⟨List.mem_append.2 (.inr h1), τ, x, cs, h2, ?_, ?_⟩
        · show a.tmps.getD q.1 undef = _
          rw [hR.pin _ h1, h3]
        · refine h4.mono (fun m b hm => ?_) (by simp)
          obtain ⟨q1, q2⟩ := hk.1 b (md_or hm)
          refine ⟨?_, Sm.of_heap (hR.frame b q1 q2)⟩
          cases m
          · exact hR.i0 b hm
          · exact hm.imp (hR.i0 b) id
  refine wp_mono (h C' rfl rfl hkg a w ⟨I, rt, fp, hR'⟩ hd) ?_
  rintro e a' w' ⟨st', hq, ⟨I', rt', fp', hS⟩, hd'⟩
  have hF : ∀ b, C'.F0 b → C.w0.heap.size ≤ b ∨ C.F0 b := by
    rintro b ⟨id, t, ht, hb⟩
    exact ((hR.tree id t ht).2.2 b hb).2.2.2
  refine ⟨st', hq, ⟨I', rt', fp', ?_⟩, hd'⟩
  refine { n := hS.n, i0 := fun b hb => hS.i0 b (hR.i0 b hb), i1 := fun b hb => ?_, ib := hS.ib, tree := fun id t ht => ?_, dis := hS.dis, tmp := hS.tmp, frame := fun b h1 h2 => ?_, size := Nat.le_trans hR.size hS.size, os := hS.os.trans hR.os, tape := hS.tape.trans hR.tape, output := hS.output.trans hR.output, pin := fun k hk => ?_ }
  · rcases hS.i1 b hb with h | h | h
    · exact hR.i1 b h
    · exact .inr (.inl (Nat.le_trans hR.size h))
    · exact .inr (hF b h)
  · obtain ⟨q1, q2, q3⟩ := hS.tree id t ht
    refine ⟨q1, q2, fun b hb => ?_⟩
    obtain ⟨r1, r2, r3, r4⟩ := q3 b hb
    refine ⟨r1, r2, r3, ?_⟩
    rcases r4 with h | h
    · exact .inl (Nat.le_trans hR.size h)
    · exact hF b h
  · refine (hS.frame b (Nat.lt_of_lt_of_le h1 hR.size) ?_).trans (hR.frame b h1 h2)
    intro hf
    rcases hF b hf with h | h
    · omega
    · exact h2 h
  · rw [hS.pin k (List.mem_append.2 (.inr hk))]
    exact hR.pin k hk
end
end Go.Fw
