/-
  The framework, part 33 (after 32, before 30): the rule for regions whose order is drawn, whole.
-/
import Derived.Test.YtlalecmgnaoiiaaFw32
namespace Go.Fw

section
variable {ic : IC} {ops : Array Oper} {ft mo : Nat → List Nat}

theorem iD_run {β : Type} {K : St → Option β} {r : β} : ∀ {l : List Nat} {st : St}, iD ic ops ft mo l st K = some r → ∃ t, RunD ic ops ft mo l st t ∧ K t = some r
  | [], st, h => ⟨st, SEq.refl st, h⟩
  | i :: l, st, h => by
      simp only [iD] at h
      split at h
      · cases h
      rename_i o ho
      split at h
      · rename_i hg
        obtain ⟨e, h1, h2, h3⟩ := eFc_some h
        obtain ⟨t, k1, k2⟩ := iD_run h3
        exact ⟨t, ⟨e, ⟨o, ho, .inl ⟨by unfold wantP; rw [hg], h1, h2⟩⟩, k1⟩, k2⟩
      · rename_i j want hg
        split at h
        case h_2 => cases h
        rename_i dj d hdj hd
        split at h
        case h_3 => cases h
        case h_2 =>
          rename_i q hx
          cases hs : slotOk ic.n ic.pin d with
          | false => rw [hs] at h; cases h
          | true =>
          rw [hs] at h
          obtain ⟨t, k1, k2⟩ := iD_run h
          refine ⟨t, ⟨skipEff d, ⟨o, ho, .inr ⟨?_, d, hd, hs, rfl⟩⟩, k1⟩, k2⟩
          unfold wantP
          rw [hg]
          simp only [hdj, hx]
        rename_i x hx
        cases hs : slotOk ic.n ic.pin d with
        | false => rw [hs] at h; cases h
        | true =>
        rw [hs] at h
        simp only [cond_true] at h
        have same : ∀ b, x = b → SEq ⟨(dj, .val .bool b) :: st.g, st.h⟩ st := fun b hb => ⟨fun k => by
          show gt ((dj, _) :: st.g) k = _
          rw [gt_cons]
          split
          · rename_i e; rw [← e, hx, hb]
          · rfl, fun _ => rfl⟩
        split at h
        · rename_i hb
          obtain rfl : x = want := by simpa using hb
          obtain ⟨e, h1, h2, h3⟩ := eFc_some h
          obtain ⟨t, k1, k2⟩ := iD_run h3
          have hS : Stp ic ops ft mo i ⟨(dj, .val .bool x) :: st.g, st.h⟩ e := by
            refine ⟨o, ho, .inl ⟨?_, h1, h2⟩⟩
            unfold wantP
            rw [hg]
            simp only [hdj, (same x rfl).g dj, hx]
            simp
          exact ⟨t, ⟨e, hS.seq (same x rfl), k1.seq ((same x rfl).app e)⟩, k2⟩
        · rename_i hb
          have hxw : x = !want := by cases x <;> cases want <;> first | rfl | cases hb
          obtain ⟨t, k1, k2⟩ := iD_run h
          refine ⟨t, ⟨skipEff d, ⟨o, ho, .inr ⟨?_, d, hd, hs, rfl⟩⟩, k1.seq ((same _ hxw).app (skipEff d))⟩, k2⟩
          unfold wantP
          rw [hg]
          simp only [hdj, hx]
          exact hb

/-- The order is one of the orders that may be drawn, and what may be exchanged commutes. -/
def chkL (ops : Array Oper) (ft mo : Nat → List Nat) : List Nat → List (Nat × List Nat) → List Nat → Bool
  | _, _, [] => true
  | seen, tb, i :: l =>
    let ps := predsB ops i
    let an := ps ++ (ps.map fun p => (lk tb p).getD []).flatten
    ps.all (fun p => memN p seen) && seen.all (fun x => memN x an || commB ops ft mo x i) && !(memN i seen) && Nat.blt i ops.size && chkL ops ft mo (i :: seen) ((i, an) :: tb) l

def chkD (ops : Array Oper) (ft mo : Nat → List Nat) (L : List Nat) : Bool := chkL ops ft mo [] [] L && ((List.range ops.size).all fun i => memN i L) && Nat.ble L.length ops.size

def DownC (ops : Array Oper) (D : Nat → Prop) : Prop := ∀ k, D k → ∀ p ∈ predsB ops k, D p

theorem chkL_spec : ∀ {l seen : List Nat} {tb : List (Nat × List Nat)}, chkL ops ft mo seen tb l = true → (∀ p q, lk tb p = some q → ∀ D, DownC ops D → D p → ∀ x ∈ q, D x) →
    ∀ A i B, l = A ++ i :: B → (∀ p ∈ predsB ops i, p ∈ seen ∨ p ∈ A) ∧ (∀ D, DownC ops D → (∀ p ∈ predsB ops i, D p) → ∀ x, (x ∈ seen ∨ x ∈ A) → ¬ D x → commB ops ft mo x i = true) ∧ i ∉ seen ∧ i ∉ A ∧ i < ops.size
  | [], _, _, _, _, A, i, B, hl => by cases A <;> cases hl
  | j :: l, seen, tb, h, ht, A, i, B, hl => by
      simp only [chkL, Bool.and_eq_true, List.all_eq_true] at h
      obtain ⟨⟨⟨⟨h1, h2⟩, h3⟩, h4⟩, h5⟩ := h
      have h3 : j ∉ seen := fun hm => by rw [memN_iff.2 hm] at h3; cases h3
      have ht' : ∀ D, DownC ops D → (∀ p ∈ predsB ops j, D p) → ∀ x ∈ predsB ops j ++ ((predsB ops j).map fun p => (lk tb p).getD []).flatten, D x := by
        intro D hD hp x hx
        rcases List.mem_append.1 hx with hx | hx
        · exact hp x hx
        · obtain ⟨l', hl', hx⟩ := List.mem_flatten.1 hx
          obtain ⟨p, hpm, rfl⟩ := List.mem_map.1 hl'
          cases hlk : lk tb p with
          | none => rw [hlk] at hx; cases hx
          | some q => rw [hlk] at hx; exact ht p q hlk D hD (hp p hpm) x hx
      cases A with
      | nil =>
        cases hl
        refine ⟨fun p hp => .inl (memN_iff.1 (h1 p hp)), fun D hD hp x hx hnx => ?_, h3, by simp, Nat.le_of_ble_eq_true h4⟩
        rcases hx with hx | hx
        · have := h2 x hx
          rcases Bool.or_eq_true _ _ ▸ this with hm | hm
          · exact absurd (ht' D hD hp x (memN_iff.1 hm)) hnx
          · exact hm
        · cases hx
      | cons a A =>
        cases hl
        obtain ⟨g1, g2, g3, g4, g5⟩ := chkL_spec h5 (fun p q hpq D hD hp x hx => by
          rw [lk_cons] at hpq
          split at hpq
          · rename_i e; cases hpq; subst e; exact ht' D hD (hD _ hp) x hx
          · exact ht p q hpq D hD hp x hx) A i B rfl
        refine ⟨fun p hp => ?_, fun D hD hp x hx hnx => g2 D hD hp x ?_ hnx, fun hm => g3 (by simp [hm]), fun hm => ?_, g5⟩
        · rcases g1 p hp with hm | hm
          · rcases List.mem_cons.1 hm with rfl | hm
            · exact .inr (by simp)
            · exact .inl hm
          · exact .inr (by simp [hm])
        · rcases hx with hx | hx
          · exact .inl (by simp [hx])
          · rcases List.mem_cons.1 hx with rfl | hx
            · exact .inl (by simp)
            · exact .inr hx
        · rcases List.mem_cons.1 hm with rfl | hm
          · exact g3 (by simp)
          · exact g4 hm

variable {E : Env} {C : Ctx}

/-- A step on the machine. -/
theorem Stp.wp (hic : ic.Ok E C) {i : Nat} {s : St} {e : Eff} (h : Stp ic ops ft mo i s e) {a : Act} {w : World} (hR : Rel C s a.tmps w) {QQ : Exit → Act → World → Prop} {next : Act → World → Prop}
    (hn : ∀ a' w', a'.defers = a.defers → Rel C (e.app s) a'.tmps w' → next a' w') : wpOp E.P ops QQ i next a w := by
  obtain ⟨o, ho, h⟩ := h
  obtain ⟨I, rt, fp, hR'⟩ := id hR
  unfold wpOp
  simp only [ho]
  rcases h with ⟨hw, h1, _⟩ | ⟨hw, d, hd, hs, rfl⟩
  · rw [hw.ok hR', if_pos rfl]
    refine .inl (eF_ok hic h1 a w hR _ _ ?_)
    rintro s' a' w' ⟨e', he', rfl⟩ hd hr
    cases he'
    exact hn a' w' hd hr
  · rw [hw.ok hR', if_neg (by simp), hd]
    exact hn _ w rfl ⟨I, rt, fp, hR'.put (slotOk.ok hic hs) (.cv undef)⟩

def left (L : List Nat) (listed : Array Bool) : List Nat := L.filter fun i => !listed.getD i true

theorem left_set {L : List Nat} {listed : Array Bool} {A B : List Nat} {i : Nat} (h : left L listed = A ++ i :: B) (hA : i ∉ A) (hB : i ∉ B) (hi : i < listed.size) : left L (listed.setIfInBounds i true) = A ++ B := by
  have : left L (listed.setIfInBounds i true) = (left L listed).filter fun j => !(j == i) := by
    unfold left
    rw [List.filter_filter]
    refine List.filter_congr fun j _ => ?_
    by_cases hj : i = j
    · subst hj
      have : (listed.setIfInBounds i true).getD i true = true := by simp [Array.getD, hi]
      rw [this]; simp
    · rw [getD_set_ne true hj]
      have : (j == i) = false := by simp; omega
      rw [this]; simp
  rw [this, h, List.filter_append, List.filter_cons_of_neg (by simp)]
  congr 1
  · exact List.filter_eq_self.2 fun j hj => by simp; rintro rfl; exact hA hj
  · exact List.filter_eq_self.2 fun j hj => by simp; rintro rfl; exact hB hj

theorem predsB_mem {i p : Nat} {o : Oper} (ho : ops[i]? = some o) : p ∈ predsB ops i ↔ ∃ e ∈ o.after, Region.binds .any e = true ∧ e.on = p := by
  unfold predsB
  rw [ho]
  simp only [List.mem_map, List.mem_filter, Array.mem_toList_iff]
  constructor
  · rintro ⟨e, ⟨h1, h2⟩, h3⟩; exact ⟨e, h1, h2, h3⟩
  · rintro ⟨e, h1, h2, h3⟩; exact ⟨e, ⟨h1, h2⟩, h3⟩

theorem any_sound (hic : ic.Ok E C) {L : List Nat} (hL : chkD ops ft mo L = true) {t : St} {QQ : Exit → Act → World → Prop} {ds : List Deferred} (hQ : ∀ a w, a.defers = ds → Rel C t a.tmps w → QQ .normal a w) :
    ∀ (fuel : Nat) (listed : Array Bool) (a : Act) (w : World) (s : St), listed.size = ops.size → (left L listed).length ≤ fuel → DownC ops (fun k => listed.getD k true = true ∧ k < ops.size) →
      RunD ic ops ft mo (left L listed) s t → Rel C s a.tmps w → a.defers = ds → wpAny E.P .any ops QQ fuel listed a w := by
  unfold chkD at hL
  simp only [Bool.and_eq_true, List.all_eq_true, List.mem_range] at hL
  obtain ⟨⟨hL, hall⟩, _⟩ := hL
  have spec := chkL_spec hL (fun p q h => by cases h)
  have inL : ∀ i, i < ops.size → i ∈ L := fun i hi => memN_iff.1 (hall i hi)
  have getb : ∀ {listed : Array Bool} {k : Nat}, listed.size = ops.size → k < ops.size → listed.getD k true = true → listed.getD k false = true := by
    intro listed k hs hk h
    have : k < listed.size := by omega
    simpa [Array.getD, this] using h
  -- one that may be drawn is among those left
  have rdy : ∀ {listed : Array Bool} {i : Nat}, listed.size = ops.size → i ∈ Region.ready .any ops listed → i < ops.size ∧ listed.getD i true = false ∧ ∃ o, ops[i]? = some o ∧ ∀ e ∈ o.after, Region.binds .any e = true → listed.getD e.on false = true := by
    intro listed i hs hi
    obtain ⟨h1, o, ho, h2⟩ := mem_ready.1 hi
    exact ⟨(Array.getElem?_eq_some_iff.1 ho).1, h1, o, ho, h2⟩
  -- the first one left may be drawn
  have first : ∀ {listed : Array Bool} {i : Nat} {R : List Nat}, listed.size = ops.size → left L listed = i :: R → i ∈ Region.ready .any ops listed := by
    intro listed i R hs hl
    have hm : i ∈ left L listed := by rw [hl]; simp
    have hiL : i ∈ L := (List.mem_filter.1 hm).1
    have hu : listed.getD i true = false := by simpa using (List.mem_filter.1 hm).2
    obtain ⟨A, B, hAB⟩ := List.append_of_mem hiL
    obtain ⟨g1, _, _, g4, g5⟩ := spec A i B hAB
    obtain ⟨o, ho⟩ : ∃ o, ops[i]? = some o := ⟨_, Array.getElem?_eq_getElem g5⟩
    refine mem_ready.2 ⟨hu, o, ho, fun e he hb => ?_⟩
    have hp : e.on ∈ predsB ops i := (predsB_mem ho).2 ⟨e, he, hb, rfl⟩
    have hA : e.on ∈ A := by
      rcases g1 _ hp with h | h
      · cases h
      · exact h
    -- those of A are listed
    have hnone : ∀ x ∈ A, listed.getD x true = true := by
      intro x hx
      cases hx2 : listed.getD x true with
      | true => rfl
      | false =>
        obtain ⟨A1, A2, hA12⟩ := List.append_of_mem hx
        have : left L listed = left A1 listed ++ x :: (left A2 listed ++ left (i :: B) listed) := by
          show List.filter _ L = _
          rw [hAB, hA12]
          simp only [left, List.filter_append, List.filter_cons, hx2, List.append_assoc, List.cons_append]
          rfl
        rw [hl] at this
        cases hA1 : left A1 listed with
        | nil => rw [hA1] at this; cases this; exact absurd hx g4
        | cons y r =>
          rw [hA1] at this
          cases this
          have : i ∈ left A1 listed := by rw [hA1]; simp
          exact absurd (by rw [hA12]; exact List.mem_append_left _ (List.mem_filter.1 this).1) g4
    have hlt : e.on < ops.size := by
      have : e.on ∈ L := by rw [hAB]; exact List.mem_append_left _ hA
      obtain ⟨A', B', h'⟩ := List.append_of_mem this
      exact (spec A' e.on B' h').2.2.2.2
    exact getb hs hlt (hnone _ hA)
  intro fuel
  induction fuel with
  | zero =>
    intro listed a w s hs hlen hdc hrun hR hd
    have hnil : left L listed = [] := List.length_eq_zero_iff.1 (by omega)
    rw [hnil] at hrun
    refine ⟨?_, hQ a w hd (hR.seq hrun)⟩
    cases hr : Region.ready .any ops listed with
    | nil => rfl
    | cons i r =>
      obtain ⟨h1, h2, _⟩ := rdy hs (i := i) (by rw [hr]; simp)
      have : i ∈ left L listed := List.mem_filter.2 ⟨inL i h1, by rw [h2]; rfl⟩
      rw [hnil] at this; cases this
  | succ fuel ih =>
    intro listed a w s hs hlen hdc hrun hR hd
    constructor
    · intro hr
      cases hl : left L listed with
      | nil => rw [hl] at hrun; exact hQ a w hd (hR.seq hrun)
      | cons i R =>
        have := first hs hl
        rw [hr] at this; cases this
    · intro i hi
      obtain ⟨h1, h2, o, ho, h3⟩ := rdy hs hi
      have hm : i ∈ left L listed := List.mem_filter.2 ⟨inL i h1, by rw [h2]; rfl⟩
      obtain ⟨A, B, hAB⟩ := List.append_of_mem (inL i h1)
      obtain ⟨_, g2, _, g4, _⟩ := spec A i B hAB
      have hiB : i ∉ B := by
        intro hm
        obtain ⟨B1, B2, hB⟩ := List.append_of_mem hm
        have := (spec (A ++ i :: B1) i B2 (by rw [hAB, hB]; simp)).2.2.2.1
        exact this (by simp)
      have hsplit : left L listed = left A listed ++ i :: left B listed := by
        show List.filter _ L = _
        rw [hAB]
        simp only [left, List.filter_append, List.filter_cons, h2]
        rfl
      have hcomm : ∀ x ∈ left A listed, commB ops ft mo x i = true := by
        intro x hx
        obtain ⟨hxA, hxu⟩ := List.mem_filter.1 hx
        refine g2 _ hdc (fun p hp => ?_) x (.inr hxA) (fun hx => by rw [hx.1] at hxu; cases hxu)
        obtain ⟨e, he, hb, rfl⟩ := (predsB_mem ho).1 hp
        have h4 := h3 e he hb
        have hlt : e.on < listed.size := by
          cases Nat.lt_or_ge e.on listed.size with
          | inl h => exact h
          | inr h => simp [Array.getD, Nat.not_lt.2 h] at h4
        refine ⟨?_, by omega⟩
        simpa [Array.getD, hlt] using h4
      rw [hsplit] at hrun
      obtain ⟨e, he, hrun'⟩ := RunD.front hcomm hrun
      refine he.wp hic hR (fun a' w' hd' hR' => ih _ a' w' (e.app s) (by simp [hs]) ?_ ?_ ?_ hR' (hd'.trans hd))
      · rw [left_set hsplit (fun h => g4 (List.mem_filter.1 h).1) (fun h => hiB (List.mem_filter.1 h).1) (by omega)]
        rw [hsplit] at hlen
        simp at hlen ⊢
        omega
      · intro k ⟨hk1, hk2⟩ p hp
        by_cases hki : i = k
        · subst hki
          obtain ⟨e, he, hb, rfl⟩ := (predsB_mem ho).1 hp
          have h4 := h3 e he hb
          have hlt : e.on < listed.size := by
            cases Nat.lt_or_ge e.on listed.size with
            | inl h => exact h
            | inr h => simp [Array.getD, Nat.not_lt.2 h] at h4
          have h5 := getD_set_true (i := i) h4
          refine ⟨?_, by omega⟩
          have hlt' : e.on < (listed.setIfInBounds i true).size := by simpa using hlt
          have e1 : ∀ d, (listed.setIfInBounds i true).getD e.on d = (listed.setIfInBounds i true)[e.on] := fun d => by simp only [Array.getD, hlt', dif_pos]; rfl
          rw [e1] at h5 ⊢
          exact h5
        · rw [getD_set_ne true hki] at hk1
          obtain ⟨h5, h6⟩ := hdc k ⟨hk1, hk2⟩ p hp
          refine ⟨?_, h6⟩
          by_cases hpi : i = p
          · subst hpi; rw [h2] at h5; cases h5
          · rw [getD_set_ne true hpi]; exact h5
      · rw [left_set hsplit (fun h => g4 (List.mem_filter.1 h).1) (fun h => hiB (List.mem_filter.1 h).1) (by omega)]
        exact hrun'

theorem J.draw (hmix : E.P.follows .mixedOrders = true) (hic : ic.Ok E C) {β : Type} {K : St → Option β} {r : β} {id : Nat} {L : List Nat} {st : St} {R : Exit → St → Prop} (hL : chkD ops ft mo L = true) (h : iD ic ops ft mo L st K = some r)
    (hK : ∀ s, K s = some r → R .normal s) : J E C (.region id ops true) st R := by
  obtain ⟨t, h1, h2⟩ := iD_run h
  intro a w hR hd
  refine wp_region_any hmix ?_
  have hall : left L (Array.replicate ops.size false) = L := by
    refine List.filter_eq_self.2 fun i hi => ?_
    unfold chkD at hL
    simp only [Bool.and_eq_true] at hL
    obtain ⟨A, B, hAB⟩ := List.append_of_mem hi
    have := (chkL_spec hL.1.1 (fun p q h => by cases h) A i B hAB).2.2.2.2
    simp [Array.getD, this]
  have hnd : L.length ≤ ops.size := by
    unfold chkD at hL
    simp only [Bool.and_eq_true] at hL
    exact Nat.le_of_ble_eq_true hL.2
  refine any_sound hic hL (t := t) (ds := []) (fun a' w' hd' hR' => ⟨t, hK t h2, hR', hd'⟩) ops.size _ a _ st (by simp) (by rw [hall]; exact hnd) ?_ (by rw [hall]; exact h1) ?_ hd
  · intro k ⟨hk1, hk2⟩
    simp [Array.getD, hk2] at hk1
  · obtain ⟨I, rt, fp, hR⟩ := hR
    exact ⟨I, rt, fp, hR.grew (Grew.refl w).drew⟩
end
end Go.Fw
