/-
  Parts of the proof: Pl74, Pl75, Pl76, Pl78, Pl95, Pl96, Pl97, Pl98, Pl99, Pl100, Pl101, Pl102, Pl103, Pl105, Pl106: the framework (Fw), pure forms (Dn), plain laws (Pl, Th), calls of functions (Ok).
-/
import Derived.Test.YtcjbeengjcmpaaaBa1d1681d

set_option linter.all false
section
namespace Go.Fw
set_option linter.unusedSimpArgs false
set_option linter.unusedVariables false
open Go
noncomputable def dgS (adj : List (List Int)) (S : Nat → Prop) (v : Nat) : Nat := ((List.range adj.length).filter (bT adj S v)).length
def IsLst (adj : List (List Int)) (S : Nat → Prop) (m v : Nat) : Prop := v < m ∧ ¬ S v ∧ ∀ w, w < m → ¬ S w → dgS adj S v < dgS adj S w ∨ (dgS adj S v = dgS adj S w ∧ v ≤ w)
theorem IsLst.uniq {adj : List (List Int)} {S : Nat → Prop} {m v v' : Nat} (h : IsLst adj S m v) (h' : IsLst adj S m v') : v = v' := by
  have h1 := h.2.2 v' h'.1 h'.2.1
  have h2 := h'.2.2 v h.1 h.2.1
  omega
def Sc (adj : List (List Int)) (S : Nat → Prop) (m : Nat) (b l : Int) : Prop := (b = -1 ∧ l = 0 ∧ ∀ w, w < m → S w) ∨ ∃ v : Nat, b = (v : Int) ∧ l = (dgS adj S v : Int) ∧ IsLst adj S m v
theorem Sc.take {adj : List (List Int)} {S : Nat → Prop} {m : Nat} {b l : Int} (h : Sc adj S m b l) (hm : ¬ S m) (hc : b < 0 ∨ (dgS adj S m : Int) < l) : Sc adj S (m + 1) (m : Int) (dgS adj S m : Int) := by
  refine .inr ⟨m, rfl, rfl, by omega, hm, fun w hw hS => ?_⟩
  by_cases e : w = m
  · subst e; exact .inr ⟨rfl, Nat.le_refl _⟩
  · rcases h with ⟨_, _, h⟩ | ⟨v, rfl, rfl, h1, h2, h3⟩
    · exact absurd (h w (by omega)) hS
    · have := h3 w (by omega) hS
      omega
theorem Sc.skip {adj : List (List Int)} {S : Nat → Prop} {m : Nat} {b l : Int} (h : Sc adj S m b l) (hc : S m ∨ (¬ b < 0 ∧ ¬ (dgS adj S m : Int) < l)) : Sc adj S (m + 1) b l := by
  rcases h with ⟨rfl, rfl, h⟩ | ⟨v, rfl, rfl, h1, h2, h3⟩
  · refine .inl ⟨rfl, rfl, fun w hw => ?_⟩
    by_cases e : w = m
    · subst e; exact hc.resolve_right (by omega)
    · exact h w (by omega)
  · refine .inr ⟨v, rfl, rfl, by omega, h2, fun w hw hS => ?_⟩
    by_cases e : w = m
    · subst e
      have := hc.resolve_left hS
      omega
    · exact h3 w (by omega) hS
theorem Sc.done {adj : List (List Int)} {S : Nat → Prop} {m : Nat} {b l : Int} (h : Sc adj S m b l) (hex : ∃ w, w < m ∧ ¬ S w) : ∃ v : Nat, b = (v : Int) ∧ IsLst adj S m v := by
  rcases h with ⟨_, _, h⟩ | ⟨v, h1, _, h2⟩
  · obtain ⟨w, h3, h4⟩ := hex
    exact absurd (h w h3) h4
  · exact ⟨v, h1, h2⟩
open Classical in
noncomputable def mdK (adj : List (List Int)) : Nat → List Nat
  | 0 => []
  | k + 1 => mdK adj k ++ [if h : ∃ v, IsLst adj (fun x => x ∈ mdK adj k) adj.length v then h.choose else 0]
theorem mdK_succ {adj : List (List Int)} {k v : Nat} (h : IsLst adj (fun x => x ∈ mdK adj k) adj.length v) : mdK adj (k + 1) = mdK adj k ++ [v] := by
  have hex : ∃ v, IsLst adj (fun x => x ∈ mdK adj k) adj.length v := ⟨v, h⟩
  simp only [mdK]
  rw [dif_pos hex, hex.choose_spec.uniq h]
theorem mdK_length (adj : List (List Int)) : ∀ k, (mdK adj k).length = k
  | 0 => rfl
  | k + 1 => by simp only [mdK, List.length_append, mdK_length adj k, List.length_singleton]
section
variable {adj : List (List Int)}
theorem ex_left {L : List Nat} (h : L.length < adj.length) : ∃ w, w < adj.length ∧ ¬ w ∈ L := by
  apply Classical.byContradiction
  intro hno
  have := subset_le (l := List.range adj.length) (m := L) List.nodup_range fun x hx => Classical.byContradiction fun hx2 => hno ⟨x, List.mem_range.1 hx, hx2⟩
  rw [List.length_range] at this
  omega
theorem lst_ex {S : Nat → Prop} : ∀ m, (∃ w, w < m ∧ ¬ S w) → ∃ v : Nat, IsLst adj S m v := by
  classical
  have key : ∀ m, ∃ b l, Sc adj S m b l := by
    intro m
    induction m with
    | zero => exact ⟨-1, 0, .inl ⟨rfl, rfl, fun w h => by omega⟩⟩
    | succ m ih =>
      obtain ⟨b, l, h⟩ := ih
      by_cases hm : S m
      · exact ⟨_, _, h.skip (.inl hm)⟩
      · by_cases hc : b < 0 ∨ (dgS adj S m : Int) < l
        · exact ⟨_, _, h.take hm hc⟩
        · exact ⟨_, _, h.skip (.inr ⟨fun h => hc (.inl h), fun h => hc (.inr h)⟩)⟩
  intro m h
  obtain ⟨b, l, h2⟩ := key m
  obtain ⟨v, _, h3⟩ := h2.done h
  exact ⟨v, h3⟩
theorem mdK_lst {k : Nat} (hk : k < adj.length) : ∃ v, IsLst adj (fun x => x ∈ mdK adj k) adj.length v ∧ mdK adj (k + 1) = mdK adj k ++ [v] := by
  obtain ⟨v, h⟩ := lst_ex (adj := adj) (S := fun x => x ∈ mdK adj k) adj.length (ex_left (by rw [mdK_length]; exact hk))
  exact ⟨v, h, mdK_succ h⟩
theorem mdK_ok : ∀ k, k ≤ adj.length → (mdK adj k).Nodup ∧ ∀ x ∈ mdK adj k, x < adj.length := by
  intro k
  induction k with
  | zero => intro _; exact ⟨List.nodup_nil, fun x hx => by cases hx⟩
  | succ k ih =>
    intro hk
    obtain ⟨h1, h2⟩ := ih (by omega)
    obtain ⟨v, hv, e⟩ := mdK_lst (adj := adj) (k := k) (by omega)
    rw [e]
    refine ⟨List.nodup_append.2 ⟨h1, by simp, fun a ha b hb e2 => ?_⟩, fun x hx => ?_⟩
    · rw [List.mem_singleton] at hb
      subst hb; subst e2
      exact hv.2.1 ha
    · rcases List.mem_append.1 hx with hx | hx
      · exact h2 x hx
      · rw [List.mem_singleton] at hx
        subst hx; exact hv.1
variable (hV : Valid adj) (hn : adj.length ≤ 200)
include hV hn
theorem Exact_eq : d_mindeg_Exact ((adj, ()), ()) = some (natL (mdK adj adj.length), 0, ()) := by
  classical
  have h0 : chk adj = 0 := chk_zero.2 ⟨hn, hV⟩
  unfold d_mindeg_Exact
  simp only [Check_eq adj (hV.hc hn), h0, Option.bind_some, bne_self_eq_false, cond_false, Start_eq hV hn]
  have e0 : (fun _ : Nat => False) = fun x => x ∈ mdK adj 0 := by funext x; simp [mdK]
  refine bindR (natL (mdK adj adj.length), ()) rfl (loop_for adj.length (fun k => ((mT adj.length (bT adj (fun x => x ∈ mdK adj k)), (fT adj.length (fun x => decide (x ∈ mdK adj k)), ())), natL (mdK adj k), ())) 0 rfl ?_ (Nat.zero_le _) ?_ ?_)
  · rw [e0]
    refine congrArg (fun t => ((mT adj.length (bT adj fun x => x ∈ mdK adj 0), (t, ())), ([] : List Int), ())) (fT_congr fun x _ => ?_)
    simp [mdK]
  · intro k _ hk
    obtain ⟨v, hv, hnx⟩ := mdK_lst (adj := adj) hk
    have hS := fun (a : Nat) => (List.mem_append (a := a) (s := mdK adj k) (t := [v]))
    have hlen : (natL (mdK adj k)).length + [(v : Int)].length ≤ 4294967296 := by rw [natL_length, mdK_length, List.length_singleton]; omega
    have hstep : (fun x => x ∈ mdK adj k ∨ x = v) = fun x => x ∈ mdK adj (k + 1) := by
      funext x
      rw [hnx, List.mem_append, List.mem_singleton]
    simp (disch := omega) only [cond_dec, if_pos]
    refine bindR ((v : Int), (mT adj.length (bT adj (fun x => x ∈ mdK adj k)), (fT adj.length (fun x => decide (x ∈ mdK adj k)), ())), natL (mdK adj k), ()) ?_ ?_
    · simp only [elim_mT (show adj.length ≤ 4294967296 by omega) hv.1 (bT_symm hV) (bT_self _), Option.bind_some, limO_ok hlen]
      rw [mT_congr (fun a b _ _ => bT_next hV hv.2.1 a b), hstep, wrap_inc (by omega), hnx, natL_append]
      refine congrArg (fun t => some (Sum.inl (((k + 1 : Nat) : Int), (mT adj.length (bT adj (fun x => x ∈ mdK adj k ++ [v])), (t, ())), natL (mdK adj k) ++ [(v : Int)], ()))) (fT_congr fun x _ => ?_)
      unfold upd
      by_cases h : x = v
      · subst h; simp
      · simp [h]
    · rw [← Ok.eq_iff]
      refine Ok.seq adj.length (fun i s => ∃ b l, s = (b, l, (i : Int), (mT adj.length (bT adj (fun x => x ∈ mdK adj k)), (fT adj.length (fun x => decide (x ∈ mdK adj k)), ())), natL (mdK adj k), ()) ∧ Sc adj (fun x => x ∈ mdK adj k) i b l) 0 ⟨-1, 0, rfl, .inl ⟨rfl, rfl, fun w h => by omega⟩⟩ (Nat.zero_le _) ?_ ?_
      · rintro i _ _ hi ⟨b, l, rfl, hsc⟩
        have hdl : (natL ((List.range adj.length).filter (bT adj (fun x => x ∈ mdK adj k) i))).length = dgS adj (fun x => x ∈ mdK adj k) i := natL_length _
        simp (disch := omega) only [cond_dec, if_pos, List_eq (show adj.length ≤ 4294967296 by omega) hi, Option.bind_some, fT_length, idxN_nat, atO_fT, hdl]
        by_cases hm : i ∈ mdK adj k
        · simp (disch := omega) only [decT hm, Bool.not_true, show (false == true) = false from rfl, cond_false, Option.bind_some, wrap_inc]
          exact Ok.some_iff.2 ⟨b, l, rfl, hsc.skip (.inl hm)⟩
        · simp (disch := omega) only [decF hm, Bool.not_false, beq_self_eq_true, cond_true, Option.bind_some]
          by_cases hb : b < 0
          · simp (disch := omega) only [decT hb, show (true == false) = false from rfl, cond_false, cond_true, Option.bind_some, wrap_inc]
            exact Ok.some_iff.2 ⟨_, _, rfl, hsc.take hm (.inl hb)⟩
          · simp (disch := omega) only [decF hb, beq_self_eq_true, cond_true, Option.bind_some]
            by_cases hc : (dgS adj (fun x => x ∈ mdK adj k) i : Int) < l
            · simp (disch := omega) only [decT hc, cond_true, Option.bind_some, wrap_inc]
              exact Ok.some_iff.2 ⟨_, _, rfl, hsc.take hm (.inr hc)⟩
            · simp (disch := omega) only [decF hc, cond_false, Option.bind_some, wrap_inc]
              exact Ok.some_iff.2 ⟨b, l, rfl, hsc.skip (.inr ⟨hb, hc⟩)⟩
      · rintro _ ⟨b, l, rfl, hsc⟩
        obtain ⟨u, rfl, hu⟩ := hsc.done ⟨v, hv.1, hv.2.1⟩
        simp (disch := omega) only [cond_dec, if_neg]
        exact Ok.some_iff.2 (by rw [hu.uniq hv])
  · simp (disch := omega) only [cond_dec, if_neg]
end
end Go.Fw
end

section
namespace Go.Fw
set_option linter.unusedSimpArgs false
set_option linter.unusedVariables false
open Go
section
variable {adj : List (List Int)}
variable (hV : Valid adj) (hn : adj.length ≤ 200)
include hV hn
theorem md_perm : IsPerm (natL (mdK adj adj.length)) adj.length := by
  obtain ⟨h1, h2⟩ := mdK_ok (adj := adj) adj.length (Nat.le_refl _)
  refine ⟨by rw [natL_length, mdK_length], fun x hx => ?_, List.Pairwise.map _ (fun a b hab e => hab (by omega)) h1⟩
  obtain ⟨u, hu, rfl⟩ := List.mem_map.1 hx
  have := h2 u hu
  omega
end
end Go.Fw
end

section
namespace Go.Fw
set_option linter.unusedSimpArgs false
set_option linter.unusedVariables false
open Go
theorem mdK_one (adj : List (List Int)) (k : Nat) : ∃ v, mdK adj (k + 1) = mdK adj k ++ [v] := ⟨_, rfl⟩
theorem mdK_pre (adj : List (List Int)) (k : Nat) : ∀ d, ∃ B, mdK adj (k + d) = mdK adj k ++ B
  | 0 => ⟨[], by simp⟩
  | d + 1 => by
      obtain ⟨B, h⟩ := mdK_pre adj k d
      obtain ⟨v, hv⟩ := mdK_one adj (k + d)
      exact ⟨B ++ [v], by rw [← List.append_assoc, ← h]; exact hv⟩
theorem mdK_at {adj : List (List Int)} {k v : Nat} (hk : k < adj.length) (h : mdK adj (k + 1) = mdK adj k ++ [v]) : getI (natL (mdK adj adj.length)) (k : Int) = some (v : Int) := by
  obtain ⟨B, hB⟩ := mdK_pre adj (k + 1) (adj.length - (k + 1))
  rw [show k + 1 + (adj.length - (k + 1)) = adj.length by omega, h] at hB
  refine getN_some ?_
  rw [hB, natL_append, natL_append, List.append_assoc, List.getElem?_append_right (by rw [natL_length, mdK_length]; exact Nat.le_refl _), natL_length, mdK_length, Nat.sub_self]
  rfl
end Go.Fw
end

section
namespace Go.Fw
set_option linter.unusedSimpArgs false
set_option linter.unusedVariables false
open Go
theorem walk_last {A : Nat → Nat → Prop} {P : Nat → Prop} {i j : Nat} (h : WalkP A P i j) : ∃ m, A m j := by
  induction h with
  | one h => exact ⟨_, h⟩
  | step _ _ _ ih => exact ih
section
variable {adj : List (List Int)} (hV : Valid adj) {o : List Int} (hpm : o.Perm (natL (List.range adj.length)))
include hV hpm
end
end Go.Fw
end

section
namespace Go.Fw
set_option linter.unusedSimpArgs false
set_option linter.unusedVariables false
open Go
theorem asc_uniq {α : Type} : ∀ {l m : List (Int × α)}, l.Pairwise (fun a b => a.1 < b.1) → m.Pairwise (fun a b => a.1 < b.1) → (∀ x, x ∈ l ↔ x ∈ m) → l = m
  | [], [], _, _, _ => rfl
  | [], y :: m, _, _, h => by have := (h y).2 (by simp); cases this
  | x :: l, [], _, _, h => by have := (h x).1 (by simp); cases this
  | x :: l, y :: m, hl, hm, h => by
      rw [List.pairwise_cons] at hl hm
      have e : x = y := by
        rcases List.mem_cons.1 ((h x).1 (by simp)) with e | h1
        · exact e
        · rcases List.mem_cons.1 ((h y).2 (by simp)) with e | h2
          · exact e.symm
          · have := hl.1 y h2
            have := hm.1 x h1
            omega
      subst e
      rw [asc_uniq hl.2 hm.2 fun z => ?_]
      constructor
      · intro hz
        rcases List.mem_cons.1 ((h z).1 (List.mem_cons_of_mem _ hz)) with e | h1
        · subst e; have := hl.1 _ hz; omega
        · exact h1
      · intro hz
        rcases List.mem_cons.1 ((h z).2 (List.mem_cons_of_mem _ hz)) with e | h1
        · subst e; have := hm.1 _ hz; omega
        · exact h1
def sL (n : Nat) (P : Nat → Bool) : List (Int × Bool) := ((List.range n).filter P).map fun (w : Nat) => ((w : Int), true)
def sM (n : Nat) (P : Nat → Bool) (c : Nat) : Option (List (Int × Bool) × Nat) := some (sL n P, c)
theorem mem_sL {n : Nat} {P : Nat → Bool} {x : Int × Bool} : x ∈ sL n P ↔ ∃ w : Nat, w < n ∧ P w = true ∧ x = ((w : Int), true) := by
  unfold sL
  rw [List.mem_map]
  constructor
  · rintro ⟨w, hw, rfl⟩
    rw [List.mem_filter, List.mem_range] at hw
    exact ⟨w, hw.1, hw.2, rfl⟩
  · rintro ⟨w, h1, h2, rfl⟩
    exact ⟨w, by rw [List.mem_filter, List.mem_range]; exact ⟨h1, h2⟩, rfl⟩
theorem sL_asc (n : Nat) (P : Nat → Bool) : (sL n P).Pairwise (fun a b => a.1 < b.1) := by
  unfold sL
  rw [List.pairwise_map]
  refine List.Pairwise.imp ?_ ((List.pairwise_lt_range (n := n)).sublist List.filter_sublist)
  intro a b h
  show (a : Int) < (b : Int)
  omega
theorem sL_congr {n : Nat} {P Q : Nat → Bool} (h : ∀ v, v < n → P v = Q v) : sL n P = sL n Q := by
  unfold sL; rw [List.filter_congr fun v hv => h v (List.mem_range.1 hv)]
theorem sM_congr {n c c' : Nat} {P Q : Nat → Bool} (h : ∀ v, v < n → P v = Q v) (hc : c = c') : sM n P c = sM n Q c' := by
  unfold sM; rw [sL_congr h, hc]
theorem sL_length (n : Nat) (P : Nat → Bool) : (sL n P).length = nB n P := by simp [sL, nB]
theorem mGet_sL {n : Nat} {P : Nat → Bool} {w : Nat} (hw : w < n) : mGet (sL n P) (w : Int) = if P w = true then some true else none := by
  have hn := sorted_nd (sL_asc n P)
  by_cases h : P w = true
  · rw [if_pos h, mGet_iff hn, mem_sL]
    exact ⟨w, hw, h, rfl⟩
  · rw [if_neg h]
    cases hg : mGet (sL n P) (w : Int) with
    | none => rfl
    | some v =>
      rw [mGet_iff hn, mem_sL] at hg
      obtain ⟨u, _, h2, h3⟩ := hg
      simp only [Prod.mk.injEq] at h3
      have : w = u := by omega
      exact absurd (this ▸ h2) h
theorem mPut_sL {n : Nat} {P : Nat → Bool} {w : Nat} (hw : w < n) : mPut (sL n P) (w : Int) true = sL n (upd P w true) := by
  refine asc_uniq (mPut_sorted (sL_asc n P)) (sL_asc _ _) fun x => ?_
  rw [(mPut_perm (sL_asc n P)).mem_iff, List.mem_cons, mem_sL]
  unfold mDel
  rw [List.mem_filter, mem_sL]
  constructor
  · rintro (rfl | ⟨⟨u, h1, h2, rfl⟩, h3⟩)
    · exact ⟨w, hw, by simp [upd], rfl⟩
    · refine ⟨u, h1, ?_, rfl⟩
      unfold upd
      split
      · rfl
      · exact h2
  · rintro ⟨u, h1, h2, rfl⟩
    unfold upd at h2
    split at h2
    · rename_i e; subst e; exact .inl rfl
    · rename_i e
      exact .inr ⟨⟨u, h1, h2, rfl⟩, by simp; omega⟩
theorem mDel_sL {n : Nat} {P : Nat → Bool} {w : Nat} : mDel (sL n P) (w : Int) = sL n (upd P w false) := by
  refine asc_uniq (mDel_sorted (sL_asc n P)) (sL_asc _ _) fun x => ?_
  unfold mDel
  rw [List.mem_filter, mem_sL, mem_sL]
  constructor
  · rintro ⟨⟨u, h1, h2, rfl⟩, h3⟩
    refine ⟨u, h1, ?_, rfl⟩
    unfold upd
    have : u ≠ w := fun e => by subst e; simp at h3
    rw [if_neg this]; exact h2
  · rintro ⟨u, h1, h2, rfl⟩
    unfold upd at h2
    split at h2
    · cases h2
    · rename_i e
      exact ⟨⟨u, h1, h2, rfl⟩, by simp; omega⟩
theorem mLk_sM {n c : Nat} {P : Nat → Bool} {w : Nat} (hw : w < n) : (mLk (α := Bool) (sM n P c) (w : Int)).getD false = P w := by
  show (mGet (sL n P) (w : Int)).getD false = P w
  rw [mGet_sL hw]
  cases P w <;> rfl
theorem mLn_sM {n c : Nat} {P : Nat → Bool} : mLn (sM n P c) = (nB n P : Int) := by
  show ((sL n P).length : Int) = _
  rw [sL_length]
theorem mKs_sM {n c : Nat} {P : Nat → Bool} : mKs (α := Bool) (sM n P c) = natL ((List.range n).filter P) := by
  show (sL n P).map (·.1) = _
  unfold sL natL
  rw [List.map_map]; rfl
theorem mUpO_sM {n c : Nat} {P : Nat → Bool} {w : Nat} (hw : w < n) : mUpO (sM n P c) (w : Int) true = some (sM n (upd P w true) (if P w = true then c else c + 1)) := by
  show some (some (mPut (sL n P) (w : Int) true, bif (mGet (sL n P) (w : Int)).isSome then c else c + 1)) = _
  rw [mPut_sL hw, mGet_sL hw]
  by_cases h : P w = true
  · rw [if_pos h, if_pos h]; rfl
  · rw [if_neg h, if_neg h]; rfl
theorem mDlO_sM {n c : Nat} {P : Nat → Bool} {w : Nat} : mDlO (sM n P c) (w : Int) = some (sM n (upd P w false) c) := by
  show some (some (mDel (sL n P) (w : Int), c)) = _
  rw [mDel_sL]; rfl
theorem mchk_same {α σ : Type} (m : Option (List (Int × α) × Nat)) (q : σ) : mchk m m q = some q := by
  unfold mchk; rw [if_pos rfl]
theorem nB_new {n : Nat} {P : Nat → Bool} {w : Nat} (hw : w < n) (h : P w = false) : nB n (upd P w true) = nB n P + 1 := by
  have : nB n (upd P w true) = nB n (fun i => P i || decide (i = w)) := nB_congr fun i _ => by
    unfold upd
    by_cases e : i = w
    · rw [if_pos e, decide_eq_true e]; simp
    · rw [if_neg e, decide_eq_false e]; simp
  rw [this, nB_or (fun i _ hp => by
    rw [decide_eq_false]
    rintro rfl
    rw [h] at hp; cases hp), nB_one hw]
theorem upd_id {P : Nat → Bool} {w : Nat} (h : P w = true) : upd P w true = P := by
  funext i
  unfold upd
  split
  · rename_i e; subst e; exact h.symm
  · rfl
theorem toNat_natL (S : List Nat) : (natL S).map Int.toNat = S := by simp [natL, Function.comp_def]
theorem natL_back {xs : List Int} (h : ∀ x ∈ xs, 0 ≤ x) : natL (xs.map Int.toNat) = xs := by
  unfold natL
  rw [List.map_map]
  conv => rhs; rw [← List.map_id xs]
  refine List.map_congr_left fun x hx => ?_
  have := h x hx
  simp only [Function.comp, id]
  omega
theorem mfold_set {σ : Type} {f : σ → Int → Option σ} {n : Nat} {P : Nat → Bool} (S : (Nat → Bool) → σ) {s : σ} (h0 : s = S fun _ => false)
    (hstep : ∀ d v, v < n → P v = true → d v = false → (∀ u, d u = true → u < n ∧ P u = true) → f (S d) (v : Int) = some (S (upd d v true))) :
    mfold f (natL ((List.range n).filter P)) s = some (S fun v => decide (v < n) && P v) := by
  rw [mfold_iff]
  intro l hl
  have hnd : ((List.range n).filter P).Nodup := List.nodup_range.sublist List.filter_sublist
  obtain ⟨m, hm, rfl⟩ : ∃ m : List Nat, m.Perm ((List.range n).filter P) ∧ l = natL m := by
    refine ⟨l.map Int.toNat, ?_, ?_⟩
    · have := hl.map Int.toNat
      rwa [toNat_natL] at this
    · refine (natL_back fun x hx => ?_).symm
      have := hl.mem_iff.1 hx
      unfold natL at this
      obtain ⟨u, _, rfl⟩ := List.mem_map.1 this
      omega
  have hmn := hm.nodup_iff.2 hnd
  have key : ∀ (m : List Nat) (d : Nat → Bool), m.Nodup → (∀ v ∈ m, v < n ∧ P v = true ∧ d v = false) → (∀ u, d u = true → u < n ∧ P u = true) → mrun f (natL m) (S d) = some (S fun v => d v || decide (v ∈ m)) := by
    intro m
    induction m with
    | nil => intro d _ _ _; simp [natL, mrun]
    | cons v m ih =>
      intro d hn hv hd
      rw [List.nodup_cons] at hn
      obtain ⟨h1, h2, h3⟩ := hv v (by simp)
      show (f (S d) (v : Int)).bind (mrun f (natL m)) = _
      rw [hstep d v h1 h2 h3 hd, Option.bind_some, ih (upd d v true) hn.2 (fun u hu => ?_) (fun u hu => ?_)]
      · refine congrArg (fun e => some (S e)) (funext fun u => ?_)
        unfold upd
        by_cases e : u = v
        · subst e; simp
        · rw [if_neg e]; simp [e]
      · obtain ⟨q1, q2, q3⟩ := hv u (by simp [hu])
        refine ⟨q1, q2, ?_⟩
        unfold upd
        rw [if_neg (by rintro rfl; exact hn.1 hu)]; exact q3
      · unfold upd at hu
        split at hu
        · rename_i e; subst e; exact ⟨h1, h2⟩
        · exact hd u hu
  rw [h0, key m (fun _ => false) hmn (fun v hv => ?_) (fun u hu => by cases hu)]
  · refine congrArg (fun e => some (S e)) (funext fun v => ?_)
    rw [Bool.false_or, Bool.eq_iff_iff]
    simp only [decide_eq_true_eq, Bool.and_eq_true]
    rw [hm.mem_iff, List.mem_filter, List.mem_range]
  · have := hm.mem_iff.1 hv
    rw [List.mem_filter, List.mem_range] at this
    exact ⟨this.1, this.2, rfl⟩
end Go.Fw
end

section
namespace Go.Fw
set_option linter.unusedSimpArgs false
set_option linter.unusedVariables false
open Go
def IsS (n : Nat) (m : Option (List (Int × Bool) × Nat)) (L : Nat → Bool) : Prop := (m = none ∧ ∀ v, v < n → L v = false) ∨ ∃ c, m = sM n L c
theorem IsS.ks {n : Nat} {m : Option (List (Int × Bool) × Nat)} {L : Nat → Bool} (h : IsS n m L) : mKs (α := Bool) m = natL ((List.range n).filter L) := by
  rcases h with ⟨rfl, h⟩ | ⟨c, rfl⟩
  · have : (List.range n).filter L = [] := by
      rw [List.filter_eq_nil_iff]
      intro v hv
      rw [h v (List.mem_range.1 hv)]; simp
    rw [this]; rfl
  · exact mKs_sM
def sF (n : Nat) (d : Nat → Bool) (g : Nat → Nat) : Nat := (((List.range n).filter d).map g).sum
theorem sF_none (n : Nat) (g : Nat → Nat) : sF n (fun _ => false) g = 0 := by
  unfold sF
  rw [List.filter_eq_nil_iff.2 (by simp)]; rfl
theorem sF_congr {n : Nat} {d d' : Nat → Bool} {g g' : Nat → Nat} (h : ∀ v, v < n → d v = d' v) (h2 : ∀ v, v < n → d v = true → g v = g' v) : sF n d g = sF n d' g' := by
  unfold sF
  rw [← List.filter_congr fun v hv => h v (List.mem_range.1 hv)]
  refine congrArg List.sum (List.map_congr_left fun v hv => ?_)
  rw [List.mem_filter, List.mem_range] at hv
  exact h2 v hv.1 hv.2
theorem sF_new {n : Nat} {d : Nat → Bool} {g : Nat → Nat} {w : Nat} (hw : w < n) (h : d w = false) : sF n (upd d w true) g = sF n d g + g w := by
  unfold sF
  induction n with
  | zero => omega
  | succ n ih =>
    rw [List.range_succ, List.filter_append, List.filter_append, List.map_append, List.map_append, List.sum_append, List.sum_append]
    rcases Nat.lt_or_ge w n with hlt | hge
    · rw [ih hlt]
      have : upd d w true n = d n := by unfold upd; rw [if_neg (by omega)]
      rw [List.filter_cons, List.filter_cons, this]
      split <;> simp <;> omega
    · obtain rfl : w = n := by omega
      have e1 : (List.range w).filter (upd d w true) = (List.range w).filter d := List.filter_congr fun v hv => by
        have := List.mem_range.1 hv
        unfold upd; rw [if_neg (by omega)]
      have e2 : upd d w true w = true := by simp [upd]
      rw [e1, List.filter_cons, List.filter_cons, e2, h]
      simp
theorem sF_le {n : Nat} {d : Nat → Bool} {g : Nat → Nat} {b : Nat} (h : ∀ v, v < n → g v ≤ b) : sF n d g ≤ n * b := by
  unfold sF
  have h1 : ∀ l : List Nat, (∀ x ∈ l, x < n) → (l.map g).sum ≤ l.length * b := by
    intro l
    induction l with
    | nil => intro _; simp
    | cons a l ih =>
      intro hl
      simp only [List.map_cons, List.sum_cons, List.length_cons]
      have := h a (hl a (by simp))
      have := ih (fun x hx => hl x (by simp [hx]))
      rw [Nat.add_mul, Nat.one_mul]; omega
  refine Nat.le_trans (h1 _ fun x hx => ?_) (Nat.mul_le_mul_right b ?_)
  · rw [List.mem_filter, List.mem_range] at hx; exact hx.1
  · exact Nat.le_trans (List.length_filter_le _ _) (by simp)
theorem wrap_id {x : Int} (h1 : -9223372036854775808 ≤ x) (h2 : x < 9223372036854775808) : IntKind.i64.wrap x = x := wrap64 h1 (by omega)
theorem outs_eq {n : Nat} (hn : n ≤ 200) {m : Option (List (Int × Bool) × Nat)} {L Q : Nat → Bool} {c : Nat} (hm : IsS n m L) :
    d_mindeg_set_outside (m, sM n Q c, ()) = some ((nB n (fun v => L v && !Q v) : Int), ()) := by
  unfold d_mindeg_set_outside
  simp only [hm.ks, mchk_same]
  refine bind_eq (mfold_set (fun d => ((nB n (fun v => d v && !Q v) : Int), ())) ?_ ?_) ?_
  · have : nB n (fun v => false && !Q v) = 0 := by unfold nB; simp
    rw [this]; rfl
  · intro d v hv hL hd _
    have hb := nB_le n (fun v => d v && !Q v)
    simp only [mLk_sM hv]
    cases hq : Q v with
    | true =>
      simp only [Bool.not_true, cond_false, Option.bind_some]
      refine congrArg (fun t : Nat => some ((t : Int), ())) (nB_congr fun i _ => ?_)
      unfold upd
      split
      · rename_i e; subst e; rw [hq, hd]; rfl
      · rfl
    | false =>
      simp only [Bool.not_false, cond_true, Option.bind_some]
      have e : nB n (fun i => upd d v true i && !Q i) = nB n (fun v => d v && !Q v) + 1 := by
        rw [← nB_new (P := fun v => d v && !Q v) hv (by simp [hd])]
        refine nB_congr fun i _ => ?_
        unfold upd
        split
        · rename_i e; subst e; rw [hq]; rfl
        · rfl
      rw [e, wrap_inc (by omega)]
  · simp only [Option.some.injEq, Prod.mk.injEq, and_true]
    refine congrArg (fun t : Nat => (t : Int)) (nB_congr fun i hi => ?_)
    rw [decide_eq_true hi, Bool.true_and]
def min3 (a b s : Int) : Int := if s < (if a < b then a else b) then s else (if a < b then a else b)
theorem bound_eq {n : Nat} (hn : n ≤ 200) {A E L : Nat → Nat → Bool} {cA cE : Nat → Nat} {M : Nat → Option (List (Int × Bool) × Nat)} {D : Nat → Int} {G : Nat → Bool} {left : Int} {i p c : Nat} (hi : i < n) (hp : p < n)
    (hM : ∀ e, e < n → IsS n (M e) (L e)) (hMp : M p = sM n (L p) c) (hD : ∀ v, v < n → 0 ≤ D v ∧ D v ≤ 200) (hl : 0 ≤ left ∧ left ≤ 200) :
    d_mindeg_quotient_bound (some (fT n (fun v => sM n (A v) (cA v)), (fT n (fun v => sM n (E v) (cE v)), (fT n M, (fT n D, (fT n G, (left, ())))))), (i : Int), (p : Int), ()) =
      some (min3 (D i + ((nB n (L p) : Int) - 1)) (left - 1) ((nB n (A i) : Int) + ((nB n (L p) : Int) - 1) + (sF n (fun e => E i e && decide (e ≠ p)) fun e => nB n fun v => L e v && !L p v : Nat)), ()) := by
  unfold d_mindeg_quotient_bound
  have hLp := nB_le n (L p)
  have hAi := nB_le n (A i)
  have hDi := hD i hi
  have w1 : IntKind.i64.wrap ((nB n (L p) : Int) - 1) = (nB n (L p) : Int) - 1 := wrap_id (by omega) (by omega)
  have w2 : IntKind.i64.wrap ((nB n (A i) : Int) + ((nB n (L p) : Int) - 1)) = (nB n (A i) : Int) + ((nB n (L p) : Int) - 1) := wrap_id (by omega) (by omega)
  have w3 : IntKind.i64.wrap (left - 1) = left - 1 := wrap_id (by omega) (by omega)
  have w4 : IntKind.i64.wrap (D i + ((nB n (L p) : Int) - 1)) = D i + ((nB n (L p) : Int) - 1) := wrap_id (by omega) (by omega)
  have hMLn : mLn (M p) = (nB n (L p) : Int) := by rw [hMp, mLn_sM]
  simp only [Option.bind_some, getI_fT hp, getI_fT hi, mLn_sM, hMLn, w1, w2, w3, w4, mchk_same, mKs_sM]
  refine bind_eq (mfold_set (fun d => ((nB n (A i) : Int) + ((nB n (L p) : Int) - 1) + (sF n (fun e => d e && decide (e ≠ p)) fun e => nB n fun v => L e v && !L p v : Nat), ())) ?_ ?_) ?_
  · have : sF n (fun e => false && decide (e ≠ p)) (fun e => nB n fun v => L e v && !L p v) = 0 := by
      rw [← sF_none n (fun e => nB n fun v => L e v && !L p v)]
      exact sF_congr (fun _ _ => by simp) (fun _ _ _ => rfl)
    rw [this]; simp
  · intro d e he hE hd hsub
    have hb : sF n (fun e => d e && decide (e ≠ p)) (fun e => nB n fun v => L e v && !L p v) ≤ n * n := sF_le fun v _ => nB_le _ _
    have hnn : n * n ≤ 200 * 200 := Nat.mul_le_mul hn hn
    by_cases hep : e = p
    · subst hep
      simp only [bne_self_eq_false, cond_false, Option.bind_some]
      refine congrArg (fun t : Nat => some ((nB n (A i) : Int) + ((nB n (L e) : Int) - 1) + (t : Int), ())) (sF_congr (fun v _ => ?_) fun _ _ _ => rfl)
      unfold upd
      split
      · rename_i e1; subst e1; simp
      · rfl
    · have h1 : ((e : Int) != (p : Int)) = true := by simp; omega
      have hMp' : M p = sM n (L p) c := hMp
      simp only [h1, cond_true, getI_fT he, hMp', outs_eq hn (hM e he), Option.bind_some]
      have h2 := nB_le n (fun v => L e v && !L p v)
      have e1 : sF n (fun u => upd d e true u && decide (u ≠ p)) (fun e => nB n fun v => L e v && !L p v) = sF n (fun e => d e && decide (e ≠ p)) (fun e => nB n fun v => L e v && !L p v) + nB n (fun v => L e v && !L p v) := by
        rw [← sF_new (d := fun e => d e && decide (e ≠ p)) (g := fun e => nB n fun v => L e v && !L p v) he (by simp [hd])]
        refine sF_congr (fun u _ => ?_) fun _ _ _ => rfl
        unfold upd
        split
        · rename_i e2; subst e2; simp [hep]
        · rfl
      rw [e1, wrap_id (by omega) (by omega)]
      simp only [Option.some.injEq, Prod.mk.injEq, and_true]
      omega
  · simp only [Option.bind_some]
    have e : (sF n (fun e => (decide (e < n) && E i e) && decide (e ≠ p)) fun e => nB n fun v => L e v && !L p v) = sF n (fun e => E i e && decide (e ≠ p)) fun e => nB n fun v => L e v && !L p v :=
      sF_congr (fun v hv => by rw [decide_eq_true hv, Bool.true_and]) fun _ _ _ => rfl
    rw [e]
    rfl
end Go.Fw
end

section
namespace Go.Fw
set_option linter.unusedSimpArgs false
set_option linter.unusedVariables false
open Go
def uniB (n : Nat) (A E L : Nat → Nat → Bool) (p v : Nat) : Bool := A p v || (List.range n).any fun e => E p e && L e v
def allB (n : Nat) (A E L : Nat → Nat → Bool) (p v : Nat) : Bool := uniB n A E L p v && decide (v ≠ p)
def nxA (n : Nat) (A E L : Nat → Nat → Bool) (p : Nat) : Nat → Nat → Bool := fun i v => if allB n A E L p i = true then A i v && decide (v ≠ p) && !allB n A E L p v else A i v
def nxE (n : Nat) (A E L : Nat → Nat → Bool) (p : Nat) : Nat → Nat → Bool := fun i e => if allB n A E L p i = true then (E i e && !E p e) || decide (e = p) else E i e
def nxL (n : Nat) (A E L : Nat → Nat → Bool) (p : Nat) : Nat → Nat → Bool := upd L p (allB n A E L p)
def nxB (n : Nat) (A E L : Nat → Nat → Bool) (D : Nat → Int) (left : Int) (p i : Nat) : Int :=
  min3 (D i + ((nB n (allB n A E L p) : Int) - 1)) (left - 1) ((nB n (nxA n A E L p i) : Int) + ((nB n (allB n A E L p) : Int) - 1) + (sF n (fun e => nxE n A E L p i e && decide (e ≠ p)) fun e => nB n fun v => nxL n A E L p e v && !allB n A E L p v : Nat))
def nxD (n : Nat) (A E L : Nat → Nat → Bool) (D : Nat → Int) (left : Int) (p : Nat) : Nat → Int := fun i => if allB n A E L p i = true then nxB n A E L D left p i else D i
theorem mUp_cl {n : Nat} {P : Nat → Bool} {w : Nat} (hw : w < n) : mUpO (sM n P (nB n P)) (w : Int) true = some (sM n (upd P w true) (nB n (upd P w true))) := by
  rw [mUpO_sM hw]
  by_cases h : P w = true
  · rw [if_pos h, upd_id h]
  · rw [if_neg h, nB_new hw (by simpa using h)]
theorem sM_cl {n : Nat} {P Q : Nat → Bool} (h : ∀ v, v < n → P v = Q v) : sM n P (nB n P) = sM n Q (nB n Q) := sM_congr h (nB_congr h)
theorem any_upd {n : Nat} {d : Nat → Bool} {f : Nat → Bool} {e : Nat} (he : e < n) : ((List.range n).any fun u => upd d e true u && f u) = (((List.range n).any fun u => d u && f u) || f e) := by
  rw [Bool.eq_iff_iff]
  simp only [List.any_eq_true, List.mem_range, Bool.or_eq_true, Bool.and_eq_true, upd]
  constructor
  · rintro ⟨u, h1, h2, h3⟩
    split at h2
    · rename_i e1; subst e1; exact .inr h3
    · exact .inl ⟨u, h1, h2, h3⟩
  · rintro (⟨u, h1, h2, h3⟩ | h)
    · refine ⟨u, h1, ?_, h3⟩
      split
      · rfl
      · exact h2
    · exact ⟨e, he, by rw [if_pos rfl], h⟩
theorem nB_pos {n : Nat} {P : Nat → Bool} {v : Nat} (hv : v < n) (h : P v = true) : 1 ≤ nB n P := by
  unfold nB
  exact List.length_pos_of_mem (List.mem_filter.2 ⟨List.mem_range.2 hv, h⟩)
theorem min3_le (a b s : Int) : min3 a b s ≤ a ∧ min3 a b s ≤ b ∧ min3 a b s ≤ s := by unfold min3; split <;> split <;> omega
theorem min3_ge {a b s x : Int} (h1 : x ≤ a) (h2 : x ≤ b) (h3 : x ≤ s) : x ≤ min3 a b s := by unfold min3; split <;> split <;> omega
theorem nxB_rng {n : Nat} {A E L : Nat → Nat → Bool} {D : Nat → Int} {left : Int} {p v : Nat} (hv : v < n) (hall : allB n A E L p v = true) (hD : 0 ≤ D v) (hl : 2 ≤ left) : 0 ≤ nxB n A E L D (left - 1) p v ∧ nxB n A E L D (left - 1) p v ≤ left - 2 := by
  have h1 := nB_pos hv hall
  unfold nxB
  have h2 := (min3_le (D v + ((nB n (allB n A E L p) : Int) - 1)) (left - 1 - 1) ((nB n (nxA n A E L p v) : Int) + ((nB n (allB n A E L p) : Int) - 1) + (sF n (fun e => nxE n A E L p v e && decide (e ≠ p)) fun e => nB n fun u => nxL n A E L p e u && !allB n A E L p u : Nat))).2.1
  exact ⟨min3_ge (by omega) (by omega) (by omega), by omega⟩
theorem updd {α : Type} (f : Nat → α) (i : Nat) (x y : α) : upd (upd f i x) i y = upd f i y := by
  funext j
  unfold upd
  split <;> rfl
set_option maxHeartbeats 4000000 in
theorem elimq_eq {n : Nat} (hn : n ≤ 200) {A E L : Nat → Nat → Bool} {cA cE : Nat → Nat} {M : Nat → Option (List (Int × Bool) × Nat)} {D : Nat → Int} {G : Nat → Bool} {left : Int} {p : Nat} (hp : p < n)
    (hM : ∀ e, e < n → IsS n (M e) (L e)) (hD : ∀ v, v < n → 0 ≤ D v ∧ D v ≤ 200) (hl : 1 ≤ left ∧ left ≤ 200) (hl2 : ∀ v, v < n → allB n A E L p v = true → 2 ≤ left) :
    ∃ (cA' cE' : Nat → Nat) (c : Nat), d_mindeg_quotient_eliminate ((fT n (fun v => sM n (A v) (cA v)), (fT n (fun v => sM n (E v) (cE v)), (fT n M, (fT n D, (fT n G, (left, ())))))), (p : Int), ()) =
      some ((fT n (fun v => sM n (nxA n A E L p v) (cA' v)), (fT n (fun v => sM n (nxE n A E L p v) (cE' v)), (fT n (upd M p (sM n (allB n A E L p) c)), (fT n (nxD n A E L D (left - 1) p), (fT n (upd G p true), (left - 1, ())))))), ()) := by
  have w1 : IntKind.i64.wrap (left - 1) = left - 1 := wrap_id (by omega) (by omega)
  refine ⟨cA, fun i => if allB n A E L p i = true then (if (E i p && !E p p) = true then cE i else cE i + 1) else cE i, nB n (uniB n A E L p), ?_⟩
  unfold d_mindeg_quotient_eliminate
  simp (disch := omega) only [fT_length, idxN_nat, Option.bind_some, atO_fT, fT_set, Option.map_some, w1, mKs_sM, mchk_same]
  -- the neighbours
  refine bind_eq (mfold_set (fun d => (p, (fT n (fun v => sM n (A v) (cA v)), (fT n (fun v => sM n (E v) (cE v)), (fT n M, (fT n D, (fT n (upd G p true), (left - 1, ())))))), sM n d (nB n d), ())) ?_ ?_) ?_
  · have : nB n (fun _ => false) = 0 := by unfold nB; rw [List.filter_eq_nil_iff.2 (by simp)]; rfl
    rw [this]
    have e : sM n (fun _ => false) 0 = some ([], 0) := by
      unfold sM sL
      rw [List.filter_eq_nil_iff.2 (by simp)]; rfl
    rw [e]
  · intro d v hv hA hd _
    simp (disch := omega) only [mUp_cl hv, Option.bind_some, atO_fT, mchk_same]
  simp (disch := omega) only [fT_length, idxN_nat, Option.bind_some, atO_fT, fT_set, Option.map_some, mKs_sM, mchk_same]
  -- the elements
  refine bind_eq (mfold_set (fun d => (p, (fT n (fun v => sM n (A v) (cA v)), (fT n (fun v => sM n (E v) (cE v)), (fT n M, (fT n D, (fT n (upd G p true), (left - 1, ())))))), sM n (fun v => A p v || (List.range n).any fun e => d e && L e v) (nB n (fun v => A p v || (List.range n).any fun e => d e && L e v)), ())) ?_ ?_) ?_
  · rw [sM_cl (Q := fun v => A p v || (List.range n).any fun e => false && L e v) (fun v hv => by rw [decide_eq_true hv, Bool.true_and]; simp)]
  · intro d e he hE hd _
    simp (disch := omega) only [fT_length, idxN_nat, Option.bind_some, atO_fT, (hM e he).ks]
    refine bind_eq (bind_eq (mfold_set (fun d' => (p, e, (fT n (fun v => sM n (A v) (cA v)), (fT n (fun v => sM n (E v) (cE v)), (fT n M, (fT n D, (fT n (upd G p true), (left - 1, ())))))), sM n (fun v => (A p v || (List.range n).any fun e => d e && L e v) || d' v) (nB n (fun v => (A p v || (List.range n).any fun e => d e && L e v) || d' v)), ())) ?_ ?_) rfl) ?_
    · rw [sM_cl (Q := fun v => (A p v || (List.range n).any fun e => d e && L e v) || false) (fun v hv => by rw [Bool.or_false])]
    · intro d' v hv hL hd' _
      simp (disch := omega) only [mUp_cl hv, Option.bind_some, atO_fT, mchk_same]
      rw [sM_cl (P := upd (fun v => (A p v || (List.range n).any fun e => d e && L e v) || d' v) v true) (Q := fun u => (A p u || (List.range n).any fun e => d e && L e u) || upd d' v true u) (fun u hu => by
        unfold upd
        split
        · rename_i e1; subst e1; simp
        · rfl)]
    · simp (disch := omega) only [Option.bind_some, atO_fT, mchk_same]
      rw [sM_cl (Q := fun v => A p v || (List.range n).any fun u => upd d e true u && L u v) (fun v hv => by
        rw [any_upd (f := fun u => L u v) he, decide_eq_true hv, Bool.true_and, Bool.or_assoc])]
  have eU : sM n (fun v => A p v || (List.range n).any fun e => (decide (e < n) && E p e) && L e v) (nB n (fun v => A p v || (List.range n).any fun e => (decide (e < n) && E p e) && L e v)) = sM n (uniB n A E L p) (nB n (uniB n A E L p)) := by
    refine sM_cl fun v hv => ?_
    unfold uniB
    congr 1
    rw [Bool.eq_iff_iff]
    simp only [List.any_eq_true, List.mem_range, Bool.and_eq_true, decide_eq_true_eq]
    exact ⟨fun ⟨e, h1, h2, h3⟩ => ⟨e, h1, h2.2, h3⟩, fun ⟨e, h1, h2, h3⟩ => ⟨e, h1, ⟨h1, h2⟩, h3⟩⟩
  have eA : ∀ c, sM n (upd (uniB n A E L p) p false) c = sM n (allB n A E L p) c := fun c => sM_congr (fun v hv => by
    unfold allB upd
    split
    · rename_i e; subst e; simp
    · rename_i e; simp [e]) rfl
  generalize hU : nB n (uniB n A E L p) = cU at *
  simp (disch := omega) only [eU, mDlO_sM, eA, fT_length, idxN_nat, Option.bind_some, atO_fT, fT_set, Option.map_some, upd_same, mKs_sM, mchk_same]
  have hallp : allB n A E L p p = false := by simp [allB]
  -- the sets of the members
  let NA : (Nat → Bool) → Nat → Option (List (Int × Bool) × Nat) := fun d v => sM n (if d v = true then fun u => A v u && decide (u ≠ p) && !allB n A E L p u else A v) (cA v)
  let NE : (Nat → Bool) → Nat → Option (List (Int × Bool) × Nat) := fun d v => sM n (if d v = true then fun e => (E v e && !E p e) || decide (e = p) else E v) (if d v = true then (if (E v p && !E p p) = true then cE v else cE v + 1) else cE v)
  have hNA0 : ∀ d v, d v = false → NA d v = sM n (A v) (cA v) := fun d v h => by simp only [NA, h, Bool.false_eq_true, if_false]
  have hNE0 : ∀ d v, d v = false → NE d v = sM n (E v) (cE v) := fun d v h => by simp only [NE, h, Bool.false_eq_true, if_false]
  refine bind_eq (mfold_set (fun d => (p, p, (fT n (NA d), (fT n (NE d), (fT n (upd M p (sM n (allB n A E L p) cU)), (fT n D, (fT n (upd G p true), (left - 1, ())))))), ())) ?_ ?_) ?_
  · simp only [NA, NE, Bool.false_eq_true, if_false]
  · intro d i hi hall hd hsub
    have hip : i ≠ p := fun e => by subst e; rw [hallp] at hall; cases hall
    have hpi : p ≠ i := fun e => hip e.symm
    have hdp : d p = false := by
      cases h : d p with
      | false => rfl
      | true => have := (hsub p h).2; rw [hallp] at this; cases this
    have hNAi := hNA0 d i hd
    have hNEi := hNE0 d i hd
    have hNEp := hNE0 d p hdp
    simp (disch := omega) only [fT_length, idxN_nat, Option.bind_some, atO_fT, hNAi, mDlO_sM, fT_set, Option.map_some, upd_same, mKs_sM, mchk_same]
    refine bind_eq (y := (p, p, (fT n (upd (NA d) i (sM n (fun u => A i u && decide (u ≠ p) && !(decide (u < n) && allB n A E L p u)) (cA i))), (fT n (upd (NE d) i (sM n (upd (fun e => E i e && !(decide (e < n) && E p e)) p true) (if (E i p && !(decide (p < n) && E p p)) = true then cE i else cE i + 1))), (fT n (upd M p (sM n (allB n A E L p) cU)), (fT n D, (fT n (upd G p true), (left - 1, ())))))), ())) (bind_eq (mfold_set (fun d' => (p, p, p, (fT n (upd (NA d) i (sM n (fun u => A i u && decide (u ≠ p) && !d' u) (cA i))), (fT n (NE d), (fT n (upd M p (sM n (allB n A E L p) cU)), (fT n D, (fT n (upd G p true), (left - 1, ())))))), ())) ?_ ?_) ?_) ?_
    · rw [sM_congr (c := cA i) (c' := cA i) (P := upd (A i) p false) (Q := fun u => A i u && decide (u ≠ p) && !false) (fun v hv => by
        unfold upd
        split
        · rename_i e; subst e; simp
        · rename_i e; simp [e]) rfl]
    · intro d' v hv _ hd' _
      simp (disch := omega) only [fT_length, idxN_nat, Option.bind_some, atO_fT, mDlO_sM, fT_set, Option.map_some, upd_same, updd, mKs_sM, mchk_same]
      rw [sM_congr (c := cA i) (c' := cA i) (P := upd (fun u => A i u && decide (u ≠ p) && !d' u) v false) (Q := fun u => A i u && decide (u ≠ p) && !upd d' v true u) (fun u hu => by
        unfold upd
        split
        · simp
        · rfl) rfl]
    · simp (disch := omega) only [fT_length, idxN_nat, Option.bind_some, atO_fT, hNEp, mKs_sM, mchk_same]
      refine bind_eq (mfold_set (fun d' => (p, p, p, (fT n (upd (NA d) i (sM n (fun u => A i u && decide (u ≠ p) && !(decide (u < n) && allB n A E L p u)) (cA i))), (fT n (upd (NE d) i (sM n (fun e => E i e && !d' e) (cE i))), (fT n (upd M p (sM n (allB n A E L p) cU)), (fT n D, (fT n (upd G p true), (left - 1, ())))))), ())) ?_ ?_) ?_
      · refine congrArg (fun t => (p, p, p, (fT n (upd (NA d) i (sM n (fun u => A i u && decide (u ≠ p) && !(decide (u < n) && allB n A E L p u)) (cA i))), (t, (fT n (upd M p (sM n (allB n A E L p) cU)), (fT n D, (fT n (upd G p true), (left - 1, ())))))), ())) (fT_congr fun v hv => ?_)
        unfold upd
        split
        · rename_i e; subst e
          rw [hNEi]
          exact sM_congr (fun u _ => by simp) rfl
        · rfl
      · intro d' v hv hE hd' _
        simp (disch := omega) only [fT_length, idxN_nat, Option.bind_some, atO_fT, mDlO_sM, fT_set, Option.map_some, upd_same, updd, upd_ne _ _ hpi, hNEp, mKs_sM, mchk_same]
        rw [sM_congr (c := cE i) (c' := cE i) (P := upd (fun e => E i e && !d' e) v false) (Q := fun u => E i u && !upd d' v true u) (fun u hu => by
          unfold upd
          split
          · simp
          · rfl) rfl]
      · simp (disch := omega) only [fT_length, idxN_nat, Option.bind_some, atO_fT, mUpO_sM hp, fT_set, Option.map_some, upd_same, updd, mKs_sM, mchk_same]
    · simp (disch := omega) only [fT_length, idxN_nat, Option.bind_some, atO_fT, upd_same, mchk_same]
      have e1 : fT n (upd (NA d) i (sM n (fun u => A i u && decide (u ≠ p) && !(decide (u < n) && allB n A E L p u)) (cA i))) = fT n (NA (upd d i true)) := fT_congr fun v hv => by
        simp only [NA]
        unfold upd
        split
        · rename_i e; subst e
          simp only [if_true]
          exact sM_congr (fun u hu => by rw [decide_eq_true hu, Bool.true_and]) rfl
        · rfl
      have e2 : fT n (upd (NE d) i (sM n (upd (fun e => E i e && !(decide (e < n) && E p e)) p true) (if (E i p && !(decide (p < n) && E p p)) = true then cE i else cE i + 1))) = fT n (NE (upd d i true)) := fT_congr fun v hv => by
        simp only [NE]
        unfold upd
        split
        · rename_i e; subst e
          simp only [if_true]
          refine sM_congr (fun u hu => ?_) ?_
          · rw [decide_eq_true hu, Bool.true_and]
            by_cases e : u = p
            · rw [if_pos e, decide_eq_true e, Bool.or_true]
            · rw [if_neg e, decide_eq_false e, Bool.or_false]
          · rw [decide_eq_true hp, Bool.true_and]
        · rfl
      rw [e1, e2]
  -- the degrees
  have eNA : fT n (NA fun v => decide (v < n) && allB n A E L p v) = fT n fun v => sM n (nxA n A E L p v) (cA v) := fT_congr fun v hv => by
    simp only [NA, decide_eq_true hv, Bool.true_and]
    unfold nxA
    by_cases h : allB n A E L p v = true
    · simp only [h, if_true]
    · simp only [if_neg h]
  have eNE : fT n (NE fun v => decide (v < n) && allB n A E L p v) = fT n fun v => sM n (nxE n A E L p v) (if allB n A E L p v = true then (if (E v p && !E p p) = true then cE v else cE v + 1) else cE v) := fT_congr fun v hv => by
    simp only [NE, decide_eq_true hv, Bool.true_and]
    unfold nxE
    by_cases h : allB n A E L p v = true
    · simp only [h, if_true]
    · simp only [if_neg h]
  simp (disch := omega) only [eNA, eNE, fT_length, idxN_nat, Option.bind_some, atO_fT, upd_same, mKs_sM, mchk_same]
  have hM' : ∀ e, e < n → IsS n (upd M p (sM n (allB n A E L p) cU) e) (nxL n A E L p e) := fun e he => by
    unfold nxL upd
    split
    · exact .inr ⟨cU, rfl⟩
    · exact hM e he
  have hMp : upd M p (sM n (allB n A E L p) cU) p = sM n (nxL n A E L p p) cU := by unfold nxL; rw [upd_same, upd_same]
  have eLp : nxL n A E L p p = allB n A E L p := by unfold nxL; rw [upd_same]
  refine bind_eq (mfold_set (fun d => (p, (fT n (fun v => sM n (nxA n A E L p v) (cA v)), (fT n (fun v => sM n (nxE n A E L p v) (if allB n A E L p v = true then (if (E v p && !E p p) = true then cE v else cE v + 1) else cE v)), (fT n (upd M p (sM n (allB n A E L p) cU)), (fT n (fun i => if d i = true then nxB n A E L D (left - 1) p i else D i), (fT n (upd G p true), (left - 1, ())))))), ())) ?_ ?_) ?_
  · simp only [Bool.false_eq_true, if_false]
  · intro d i hi hall hd hsub
    have hDD : ∀ v, v < n → 0 ≤ (if d v = true then nxB n A E L D (left - 1) p v else D v) ∧ (if d v = true then nxB n A E L D (left - 1) p v else D v) ≤ 200 := fun v hv => by
      split
      · rename_i hdv
        have := nxB_rng (A := A) (E := E) (L := L) (p := p) hv (hsub v hdv).2 (hD v hv).1 (hl2 v hv (hsub v hdv).2)
        omega
      · exact hD v hv
    simp only [bound_eq (A := nxA n A E L p) (E := nxE n A E L p) (L := nxL n A E L p) hn hi hp hM' hMp hDD (show 0 ≤ left - 1 ∧ left - 1 ≤ 200 by omega)]
    simp (disch := omega) only [fT_length, idxN_nat, Option.bind_some, atO_fT, fT_set, Option.map_some, upd_same, mchk_same]
    rw [eLp]
    simp only [hd, Bool.false_eq_true, if_false]
    have e1 : fT n (upd (fun i => if d i = true then nxB n A E L D (left - 1) p i else D i) i (nxB n A E L D (left - 1) p i)) = fT n (fun j => if upd d i true j = true then nxB n A E L D (left - 1) p j else D j) := fT_congr fun v _ => by
      unfold upd
      split
      · rename_i e; subst e; simp
      · rfl
    rw [← e1]
    rfl
  · simp only [Option.bind_some]
    have e1 : fT n (fun j => if (decide (j < n) && allB n A E L p j) = true then nxB n A E L D (left - 1) p j else D j) = fT n (nxD n A E L D (left - 1) p) := fT_congr fun v hv => by
      unfold nxD
      rw [decide_eq_true hv, Bool.true_and]
    rw [e1]
end Go.Fw
end

section
namespace Go.Fw
set_option linter.unusedSimpArgs false
set_option linter.unusedVariables false
open Go
def IsMn (D : Nat → Int) (G : Nat → Bool) (m v : Nat) : Prop := v < m ∧ G v = false ∧ ∀ w, w < m → G w = false → D v < D w ∨ (D v = D w ∧ v ≤ w)
theorem IsMn.uniq {D : Nat → Int} {G : Nat → Bool} {m v v' : Nat} (h : IsMn D G m v) (h' : IsMn D G m v') : v = v' := by
  have h1 := h.2.2 v' h'.1 h'.2.1
  have h2 := h'.2.2 v h.1 h.2.1
  omega
def ScD (D : Nat → Int) (G : Nat → Bool) (m : Nat) (b : Int) : Prop := (b = -1 ∧ ∀ w, w < m → G w = true) ∨ ∃ v : Nat, b = (v : Int) ∧ IsMn D G m v
theorem ScD.take {D : Nat → Int} {G : Nat → Bool} {m : Nat} {b : Int} (h : ScD D G m b) (hm : G m = false) (hc : b < 0 ∨ ∃ v : Nat, b = (v : Int) ∧ D m < D v) : ScD D G (m + 1) (m : Int) := by
  refine .inr ⟨m, rfl, by omega, hm, fun w hw hg => ?_⟩
  by_cases e : w = m
  · subst e; exact .inr ⟨rfl, Nat.le_refl _⟩
  · rcases h with ⟨h1, h2⟩ | ⟨v, rfl, h1, h2, h3⟩
    · rw [h2 w (by omega)] at hg; cases hg
    · rcases hc with hc | ⟨u, hu, hc⟩
      · omega
      · obtain rfl : v = u := by omega
        rcases h3 w (by omega) hg with h | h
        · exact .inl (by omega)
        · exact .inl (by omega)
theorem ScD.skip {D : Nat → Int} {G : Nat → Bool} {m : Nat} {b : Int} (h : ScD D G m b) (hc : G m = true ∨ ∃ v : Nat, b = (v : Int) ∧ ¬ D m < D v) : ScD D G (m + 1) b := by
  rcases h with ⟨rfl, h⟩ | ⟨v, rfl, h1, h2, h3⟩
  · refine .inl ⟨rfl, fun w hw => ?_⟩
    by_cases e : w = m
    · subst e
      rcases hc with hc | ⟨v, hv, _⟩
      · exact hc
      · omega
    · exact h w (by omega)
  · refine .inr ⟨v, rfl, by omega, h2, fun w hw hg => ?_⟩
    by_cases e : w = m
    · subst e
      rcases hc with hc | ⟨u, hu, hc⟩
      · rw [hc] at hg; cases hg
      · obtain rfl : v = u := by omega
        by_cases h : D v < D w
        · exact .inl h
        · exact .inr ⟨by omega, by omega⟩
    · exact h3 w (by omega) hg
theorem ScD.done {D : Nat → Int} {G : Nat → Bool} {m : Nat} {b : Int} (h : ScD D G m b) {v : Nat} (hv : IsMn D G m v) : b = (v : Int) := by
  rcases h with ⟨_, h⟩ | ⟨u, rfl, hu⟩
  · have := h v hv.1; rw [hv.2.1] at this; cases this
  · rw [hu.uniq hv]
theorem mn_ex {D : Nat → Int} {G : Nat → Bool} : ∀ m, (∃ w, w < m ∧ G w = false) → ∃ v, IsMn D G m v := by
  have key : ∀ m, ∃ b, ScD D G m b := by
    intro m
    induction m with
    | zero => exact ⟨-1, .inl ⟨rfl, fun w hw => by omega⟩⟩
    | succ m ih =>
      obtain ⟨b, hb⟩ := ih
      cases hm : G m with
      | true => exact ⟨b, hb.skip (.inl hm)⟩
      | false =>
        by_cases h0 : b < 0
        · exact ⟨_, hb.take hm (.inl h0)⟩
        · obtain ⟨v, rfl⟩ : ∃ v : Nat, b = (v : Int) := ⟨b.toNat, by omega⟩
          by_cases h1 : D m < D v
          · exact ⟨_, hb.take hm (.inr ⟨v, rfl, h1⟩)⟩
          · exact ⟨_, hb.skip (.inr ⟨v, rfl, h1⟩)⟩
  intro m ⟨w, hw, hg⟩
  obtain ⟨b, h⟩ := key m
  rcases h with ⟨_, h⟩ | ⟨v, _, hv⟩
  · rw [h w hw] at hg; cases hg
  · exact ⟨v, hv⟩
theorem leastq_eq {n : Nat} (hn : n ≤ 200) {NA NE M : List (Option (List (Int × Bool) × Nat))} {D : Nat → Int} {G : Nat → Bool} {left : Int} {p : Nat} (hp : IsMn D G n p) :
    d_mindeg_quotient_least (some (NA, (NE, (M, (fT n D, (fT n G, (left, ())))))), ()) = some ((p : Int), ()) := by
  unfold d_mindeg_quotient_least
  simp only [Option.bind_some, fT_length]
  refine bindR ((p : Int), ()) rfl ?_
  rw [← Ok.eq_iff]
  refine Ok.seq n (fun i s => ∃ b, s = (b, (i : Int), ()) ∧ ScD D G i b) 0 ⟨-1, rfl, .inl ⟨rfl, fun w h => by omega⟩⟩ (Nat.zero_le _) ?_ ?_
  · rintro i _ _ hi ⟨b, rfl, hsc⟩
    simp (disch := omega) only [cond_dec, if_pos, getI_fT hi, Option.bind_some]
    cases hm : G i with
    | true =>
      simp (disch := omega) only [Bool.not_true, show (false == true) = false from rfl, cond_false, Option.bind_some, wrap_inc]
      exact Ok.some_iff.2 ⟨b, rfl, hsc.skip (.inl hm)⟩
    | false =>
      simp (disch := omega) only [Bool.not_false, beq_self_eq_true, cond_true, Option.bind_some]
      by_cases hb : b < 0
      · simp (disch := omega) only [decT hb, show (true == false) = false from rfl, cond_false, cond_true, Option.bind_some, wrap_inc]
        exact Ok.some_iff.2 ⟨_, rfl, hsc.take hm (.inl hb)⟩
      · obtain ⟨v, rfl⟩ : ∃ v : Nat, b = (v : Int) := ⟨b.toNat, by omega⟩
        have hv : v < n := by
          rcases hsc with ⟨h, _⟩ | ⟨u, h, hu, _⟩
          · omega
          · omega
        simp (disch := omega) only [decF hb, beq_self_eq_true, cond_true, getI_fT hv, Option.bind_some]
        by_cases hc : D i < D v
        · simp (disch := omega) only [decT hc, cond_true, Option.bind_some, wrap_inc]
          exact Ok.some_iff.2 ⟨_, rfl, hsc.take hm (.inr ⟨v, rfl, hc⟩)⟩
        · simp (disch := omega) only [decF hc, cond_false, Option.bind_some, wrap_inc]
          exact Ok.some_iff.2 ⟨_, rfl, hsc.skip (.inr ⟨v, rfl, hc⟩)⟩
  · rintro _ ⟨b, rfl, hsc⟩
    simp (disch := omega) only [cond_dec, if_neg]
    exact Ok.some_iff.2 (by rw [hsc.done hp])
end Go.Fw
end

section
namespace Go.Fw
set_option linter.unusedSimpArgs false
set_option linter.unusedVariables false
open Go
theorem put_eq {n : Nat} {B : Nat → Nat → Bool} {a v : Nat} {b : Bool} (ha : a < n) (hv : v < n) :
    atO (mT n B) a (fun e => (atO e v fun _ => some (e.set v b)).map fun z => (mT n B).set a z) = some (mT n (upd B a (upd (B a) v b))) := by
  have h1 : atO (mT n B) a (fun e => (atO e v fun _ => some (e.set v b)).map fun z => (mT n B).set a z) = (atO (fT n (B a)) v fun _ => some ((fT n (B a)).set v b)).map fun z => (mT n B).set a z := atO_fT ha
  rw [h1, atO_fT hv]
  simp only [Option.map_some]
  unfold mT
  rw [fT_set, fT_set]
  refine congrArg some (fT_congr fun x hx => ?_)
  unfold upd
  split
  · rfl
  · rfl
def pre {α : Type} (k : Nat) (P Q : Nat → α) : Nat → α := fun v => if v < k then P v else Q v
theorem pre_zero {α : Type} (P Q : Nat → α) : pre 0 P Q = Q := by funext v; unfold pre; rw [if_neg (by omega)]
theorem pre_lt {α : Type} {k v : Nat} (P Q : Nat → α) (h : v < k) : pre k P Q v = P v := if_pos h
theorem pre_put {α : Type} {k : Nat} {P Q : Nat → α} {x : α} (h : x = P k) : upd (pre k P Q) k x = pre (k + 1) P Q := by
  funext v
  unfold upd pre
  split
  · rename_i e; subst e; rw [if_pos (by omega), h]
  · by_cases h1 : v < k
    · rw [if_pos h1, if_pos (by omega)]
    · rw [if_neg h1, if_neg (by omega)]
theorem pre_end {α : Type} (n : Nat) (P Q : Nat → α) : fT n (pre n P Q) = fT n P := fT_congr fun v hv => pre_lt P Q hv
theorem atR {n : Nat} {B : Nat → Nat → Bool} {a : Nat} (ha : a < n) : atO (mT n B) a (fun e => some e) = some (fT n (B a)) := atO_fT ha
theorem sF_succ {k : Nat} {d : Nat → Bool} {g : Nat → Nat} : sF (k + 1) d g = sF k d g + (if d k = true then g k else 0) := by
  unfold sF
  rw [List.range_succ, List.filter_append, List.map_append, List.sum_append, List.filter_cons]
  split <;> simp
theorem any_succ {k : Nat} {f : Nat → Bool} : ((List.range (k + 1)).any f) = ((List.range k).any f || f k) := by
  rw [List.range_succ, List.any_append]; simp
end Go.Fw
end

section
namespace Go.Fw
set_option linter.unusedSimpArgs false
set_option linter.unusedVariables false
open Go
structure QG where
  A : Nat → Nat → Bool
  E : Nat → Nat → Bool
  L : Nat → Nat → Bool
  D : Nat → Int
  G : Nat → Bool
def qg0 (adj : List (List Int)) : QG := ⟨nbB adj, fun _ _ => false, fun _ _ => false, fun v => (((adj.getD v []).length : Nat) : Int), fun _ => false⟩
def qgN (n : Nat) (q : QG) (p : Nat) : QG :=
  ⟨nxA n q.A q.E q.L p, nxE n q.A q.E q.L p, nxL n q.A q.E q.L p, nxD n q.A q.E q.L q.D ((n : Int) - (nB n (upd q.G p true) : Int)) p, upd q.G p true⟩
open Classical in
noncomputable def qgP (n : Nat) (q : QG) : Nat := if h : ∃ p, IsMn q.D q.G n p then h.choose else 0
theorem qgP_eq {n : Nat} {q : QG} {p : Nat} (h : IsMn q.D q.G n p) : qgP n q = p := by
  have hex : ∃ p, IsMn q.D q.G n p := ⟨p, h⟩
  unfold qgP
  rw [dif_pos hex]
  exact hex.choose_spec.uniq h
noncomputable def qgK (adj : List (List Int)) : Nat → QG
  | 0 => qg0 adj
  | k + 1 => qgN adj.length (qgK adj k) (qgP adj.length (qgK adj k))
noncomputable def qgO (adj : List (List Int)) (k : Nat) : Nat := qgP adj.length (qgK adj k)
noncomputable def qgB (adj : List (List Int)) (k : Nat) : Int := (qgK adj k).D (qgO adj k)
theorem nB_sub {n : Nat} {P Q : Nat → Bool} : nB n (fun x => P x || Q x) ≤ nB n P + nB n Q := by
  have e : nB n (fun x => P x || Q x) = nB n (fun x => P x || (Q x && !P x)) := nB_congr fun i _ => by
    cases P i <;> simp
  rw [e, nB_or fun i _ h => by rw [h]; simp]
  have := nB_mono (n := n) (p := fun x => Q x && !P x) (q := Q) fun i _ h => by rw [Bool.and_eq_true] at h; exact h.1
  omega
theorem nB_any {n : Nat} {d : Nat → Bool} {P : Nat → Nat → Bool} : ∀ m, nB n (fun x => (List.range m).any fun e => d e && P e x) ≤ sF m d fun e => nB n (P e)
  | 0 => by unfold nB; rw [List.filter_eq_nil_iff.2 (by simp)]; exact Nat.zero_le _
  | m + 1 => by
      have ih := nB_any (n := n) (d := d) (P := P) m
      rw [sF_succ]
      have e : (fun x => (List.range (m + 1)).any fun e => d e && P e x) = fun x => ((List.range m).any fun e => d e && P e x) || (d m && P m x) := funext fun x => any_succ
      rw [e]
      refine Nat.le_trans nB_sub ?_
      cases h : d m with
      | true =>
        simp only [Bool.true_and, if_true]
        exact Nat.add_le_add_right ih _
      | false =>
        have : nB n (fun x => false && P m x) = 0 := by unfold nB; rw [List.filter_eq_nil_iff.2 (by simp)]; rfl
        rw [this]; simp; exact ih
theorem nB_out {n : Nat} {P : Nat → Bool} {i : Nat} (hi : i < n) (h : P i = true) : nB n (fun x => P x && decide (x ≠ i)) + 1 = nB n P := by
  rw [← nB_new (P := fun x => P x && decide (x ≠ i)) hi (by simp)]
  refine nB_congr fun x _ => ?_
  unfold upd
  split
  · rename_i e; rw [e, h]
  · rename_i e; simp [e]
def gnS (q : QG) (x : Nat) : Prop := q.G x = true
structure QInv (adj : List (List Int)) (k : Nat) (q : QG) : Prop where
  rA : ∀ v x, q.A v x = true → v < adj.length ∧ x < adj.length
  rE : ∀ v e, q.E v e = true → v < adj.length ∧ e < adj.length
  rL : ∀ e x, q.L e x = true → x < adj.length
  sy : ∀ v x, q.G v = false → q.A v x = true → q.A x v = true ∧ q.G x = false
  eg : ∀ v e, q.G v = false → q.E v e = true → q.G e = true ∧ q.L e v = true
  lx : ∀ v e x, q.G v = false → q.E v e = true → q.L e x = true → q.G x = false ∧ q.E x e = true
  bt : ∀ v x, v < adj.length → q.G v = false → (bT adj (gnS q) v x = true ↔ x ≠ v ∧ (q.A v x = true ∨ ∃ e, q.E v e = true ∧ q.L e x = true))
  ct : nB adj.length q.G = k
  dr : ∀ v, v < adj.length → 0 ≤ q.D v ∧ q.D v ≤ 200
  dg : ∀ v, v < adj.length → q.G v = false → (dgS adj (gnS q) v : Int) ≤ q.D v
theorem row_nB {adj : List (List Int)} (hV : Valid adj) {v : Nat} (hv : v < adj.length) : (adj.getD v []) = natL ((List.range adj.length).filter (nbB adj v)) := by
  rw [getD_lt hv]
  have hr := (Valid_iff adj).1 hV v hv
  refine sorted_ext hr.1 (sorted_filter _ _) (fun x => ?_)
  constructor
  · intro hx
    obtain ⟨m, hm, rfl⟩ := List.mem_iff_getElem.1 hx
    have h1 := hr.2 m hm
    refine List.mem_map.2 ⟨adj[v][m].toNat, List.mem_filter.2 ⟨List.mem_range.2 (by omega), ?_⟩, by omega⟩
    rw [nbB_iff]
    exact ⟨hv, by rw [Int.toNat_of_nonneg h1.1.1]; exact List.getElem_mem hm⟩
  · intro hx
    obtain ⟨y, hy, rfl⟩ := List.mem_map.1 hx
    obtain ⟨_, h2⟩ := nbB_iff.1 (List.mem_filter.1 hy).2
    exact h2
section
variable {adj : List (List Int)} (hV : Valid adj) (hn : adj.length ≤ 200)
include hV hn
theorem qinv0 : QInv adj 0 (qg0 adj) := by
  have hS : gnS (qg0 adj) = fun _ => False := by funext x; exact eq_false (fun h => by cases h)
  refine ⟨fun v x h => ?_, fun v e h => (by cases h), fun e x h => (by cases h), fun v x _ h => ?_, fun v e _ h => (by cases h), fun v e x _ h => (by cases h), fun v x hv _ => ?_, ?_, fun v hv => ?_, fun v hv _ => ?_⟩
  · exact Nb.lt hV (nbB_iff.1 h)
  · exact ⟨by show nbB adj x v = true; rw [nbB_symm hV]; exact h, rfl⟩
  · rw [hS, bT_none hV]
    constructor
    · intro h
      exact ⟨fun e => Nb.ne hV (nbB_iff.1 h) e.symm, .inl h⟩
    · rintro ⟨_, h | ⟨e, h, _⟩⟩
      · exact h
      · cases h
  · show nB adj.length (fun _ => false) = 0
    unfold nB; rw [List.filter_eq_nil_iff.2 (by simp)]; rfl
  · have : (adj.getD v []).length ≤ adj.length := by
      rw [row_nB hV hv, natL_length]; exact nB_le _ _
    exact ⟨by simp [qg0], by simp only [qg0]; omega⟩
  · rw [hS]
    show (dgS adj (fun _ => False) v : Int) ≤ (((adj.getD v []).length : Nat) : Int)
    rw [row_nB hV hv, natL_length]
    have : (fun x => bT adj (fun _ => False) v x) = nbB adj v := funext fun x => bT_none hV v x
    unfold dgS
    rw [show bT adj (fun _ => False) v = nbB adj v from this]
    omega
section
variable {k : Nat} {q : QG} (h : QInv adj k q) {p : Nat} (hp : IsMn q.D q.G adj.length p)
include h hp
omit hV hn in
theorem all_bt (x : Nat) : allB adj.length q.A q.E q.L p x = true ↔ bT adj (gnS q) p x = true := by
  rw [h.bt p x hp.1 hp.2.1]
  unfold allB uniB
  simp only [Bool.and_eq_true, Bool.or_eq_true, decide_eq_true_eq, List.any_eq_true, List.mem_range]
  constructor
  · rintro ⟨h1 | ⟨e, _, h1⟩, h2⟩
    · exact ⟨h2, .inl h1⟩
    · exact ⟨h2, .inr ⟨e, h1⟩⟩
  · rintro ⟨h2, h1 | ⟨e, h1⟩⟩
    · exact ⟨.inl h1, h2⟩
    · exact ⟨.inr ⟨e, (h.rE p e h1.1).2, h1⟩, h2⟩
omit hV hn in
theorem all_lv {x : Nat} (hx : allB adj.length q.A q.E q.L p x = true) : x < adj.length ∧ q.G x = false ∧ x ≠ p := by
  have h1 := (h.bt p x hp.1 hp.2.1).1 ((all_bt h hp x).1 hx)
  refine ⟨?_, ?_, h1.1⟩
  · rcases h1.2 with h2 | ⟨e, _, h2⟩
    · exact (h.rA p x h2).2
    · exact h.rL e x h2
  · rcases h1.2 with h2 | ⟨e, h3, h2⟩
    · exact (h.sy p x hp.2.1 h2).2
    · exact (h.lx p e x hp.2.1 h3 h2).1
omit hV hn in
theorem all_left {x : Nat} (hx : allB adj.length q.A q.E q.L p x = true) : k + 2 ≤ adj.length := by
  obtain ⟨h1, h2, h3⟩ := all_lv h hp hx
  have e1 := nB_new (P := q.G) hp.1 hp.2.1
  have e2 := nB_new (P := upd q.G p true) (w := x) h1 (by rw [upd_ne _ _ h3]; exact h2)
  have := nB_le adj.length (upd (upd q.G p true) x true)
  rw [e2, e1, h.ct] at this
  omega
omit hV hn in
theorem gn_next : gnS (qgN adj.length q p) = fun x => gnS q x ∨ x = p := by
  funext x
  refine propext ?_
  show upd q.G p true x = true ↔ q.G x = true ∨ x = p
  unfold upd
  split
  · rename_i e; simp [e]
  · rename_i e; simp [e]
omit hn in
theorem bt_next (i x : Nat) : bT adj (gnS (qgN adj.length q p)) i x = true ↔ i ≠ p ∧ x ≠ p ∧ (bT adj (gnS q) i x = true ∨ (i ≠ x ∧ allB adj.length q.A q.E q.L p i = true ∧ allB adj.length q.A q.E q.L p x = true)) := by
  rw [gn_next h hp, ← bT_next hV (fun e : gnS q p => by have h1 : q.G p = true := e; rw [hp.2.1] at h1; cases h1)]
  unfold elB
  rw [all_bt h hp, all_bt h hp]
  by_cases e : i = p ∨ x = p
  · rw [if_pos e]
    constructor
    · intro h2; cases h2
    · rintro ⟨h1, h2, _⟩; exact absurd e (by simp [h1, h2])
  · rw [if_neg e]
    simp only [Bool.or_eq_true, Bool.and_eq_true, decide_eq_true_eq]
    exact ⟨fun h2 => ⟨fun e2 => e (.inl e2), fun e2 => e (.inr e2), h2⟩, fun h2 => h2.2.2⟩
end
end
end Go.Fw
end

section
namespace Go.Fw
set_option linter.unusedSimpArgs false
set_option linter.unusedVariables false
open Go
section
variable {adj : List (List Int)} (hV : Valid adj) (hn : adj.length ≤ 200)
include hV hn
variable {k : Nat} {q : QG} (h : QInv adj k q) {p : Nat} (hp : IsMn q.D q.G adj.length p)
include h hp
theorem qinv_next : QInv adj (k + 1) (qgN adj.length q p) := by
  have hpn := hp.1
  have hG : ∀ x, (qgN adj.length q p).G x = false ↔ x ≠ p ∧ q.G x = false := fun x => by
    show upd q.G p true x = false ↔ _
    unfold upd
    split
    · rename_i e; simp [e]
    · rename_i e; simp [e]
  have hGt : ∀ x, q.G x = true → (qgN adj.length q p).G x = true := fun x hx => by
    show upd q.G p true x = true
    unfold upd
    split
    · rfl
    · exact hx
  have hab := fun x => all_bt h hp (x := x)
  have hal := fun x hx => all_lv h hp (x := x) hx
  have hA : ∀ i x, (qgN adj.length q p).A i x = true ↔ q.A i x = true ∧ (allB adj.length q.A q.E q.L p i = true → x ≠ p ∧ ¬ allB adj.length q.A q.E q.L p x = true) := fun i x => by
    show nxA adj.length q.A q.E q.L p i x = true ↔ _
    unfold nxA
    split
    · rename_i e
      simp only [Bool.and_eq_true, decide_eq_true_eq, Bool.not_eq_true', Bool.not_eq_true]
      exact ⟨fun ⟨⟨a, b⟩, c⟩ => ⟨a, fun _ => ⟨b, c⟩⟩, fun ⟨a, b⟩ => ⟨⟨a, (b e).1⟩, (b e).2⟩⟩
    · rename_i e
      exact ⟨fun a => ⟨a, fun e2 => absurd e2 e⟩, fun a => a.1⟩
  have hE : ∀ i e, (qgN adj.length q p).E i e = true ↔ (allB adj.length q.A q.E q.L p i = true ∧ e = p) ∨ (q.E i e = true ∧ (allB adj.length q.A q.E q.L p i = true → ¬ q.E p e = true)) := fun i e => by
    show nxE adj.length q.A q.E q.L p i e = true ↔ _
    unfold nxE
    split
    · rename_i e1
      simp only [Bool.or_eq_true, Bool.and_eq_true, decide_eq_true_eq, Bool.not_eq_true', Bool.not_eq_true]
      exact ⟨fun a => a.elim (fun a => .inr ⟨a.1, fun _ => a.2⟩) (fun a => .inl ⟨e1, a⟩), fun a => a.elim (fun a => .inr a.2) (fun a => .inl ⟨a.1, a.2 e1⟩)⟩
    · rename_i e1
      exact ⟨fun a => .inr ⟨a, fun e2 => absurd e2 e1⟩, fun a => a.elim (fun a => absurd a.1 e1) (fun a => a.1)⟩
  have hLp : ∀ x, (qgN adj.length q p).L p x = allB adj.length q.A q.E q.L p x := fun x => by
    show nxL adj.length q.A q.E q.L p p x = _
    unfold nxL; rw [upd_same]
  have hLo : ∀ e, e ≠ p → ∀ x, (qgN adj.length q p).L e x = q.L e x := fun e he x => by
    show nxL adj.length q.A q.E q.L p e x = _
    unfold nxL; rw [upd_ne _ _ he]
  -- an element of a vertex is no vertex that is left
  have hEp : ∀ i e, q.G i = false → q.E i e = true → e ≠ p := fun i e h1 h2 e3 => by
    subst e3
    have := (h.eg i e h1 h2).1
    rw [hp.2.1] at this; cases this
  have hall : ∀ x, x ≠ p → (q.A p x = true ∨ ∃ e, q.E p e = true ∧ q.L e x = true) → allB adj.length q.A q.E q.L p x = true := fun x h1 h2 => (hab x).2 ((h.bt p x hpn hp.2.1).2 ⟨h1, h2⟩)
  -- an element that stays with i does not hold p
  have hst : ∀ i e, q.G i = false → i ≠ p → q.E i e = true → (allB adj.length q.A q.E q.L p i = true → ¬ q.E p e = true) → ¬ q.E p e = true := fun i e h1 h2 h3 h4 h5 => by
    exact h4 (hall i h2 (.inr ⟨e, h5, (h.eg i e h1 h3).2⟩)) h5
  have hxp : ∀ i e x, q.G i = false → i ≠ p → q.E i e = true → ¬ q.E p e = true → q.L e x = true → x ≠ p := fun i e x h1 h2 h3 h4 h5 e6 => by
    subst e6
    exact h4 (h.lx i e x h1 h3 h5).2
  have hct : nB adj.length (qgN adj.length q p).G = k + 1 := by
    show nB adj.length (upd q.G p true) = k + 1
    rw [nB_new hpn hp.2.1, h.ct]
  have hleft : ((adj.length : Int) - (nB adj.length (upd q.G p true) : Int)) = (adj.length : Int) - k - 1 := by
    have : nB adj.length (upd q.G p true) = k + 1 := hct
    omega
  have hbt : ∀ i x, i < adj.length → (qgN adj.length q p).G i = false → (bT adj (gnS (qgN adj.length q p)) i x = true ↔ x ≠ i ∧ ((qgN adj.length q p).A i x = true ∨ ∃ e, (qgN adj.length q p).E i e = true ∧ (qgN adj.length q p).L e x = true)) := by
    intro i x hi hg
    obtain ⟨hip, hgi⟩ := (hG i).1 hg
    rw [bt_next hV h hp, h.bt i x hi hgi]
    constructor
    · rintro ⟨_, hx, ⟨h1, h2⟩ | ⟨h1, h2, h3⟩⟩
      · refine ⟨h1, ?_⟩
        by_cases hai : allB adj.length q.A q.E q.L p i = true ∧ allB adj.length q.A q.E q.L p x = true
        · exact .inr ⟨p, (hE i p).2 (.inl ⟨hai.1, rfl⟩), by rw [hLp]; exact hai.2⟩
        · rcases h2 with h2 | ⟨e, h2, h3⟩
          · exact .inl ((hA i x).2 ⟨h2, fun ha => ⟨hx, fun hb => hai ⟨ha, hb⟩⟩⟩)
          · have hep := hEp i e hgi h2
            refine .inr ⟨e, (hE i e).2 (.inr ⟨h2, fun ha hb => hai ⟨ha, hall x hx (.inr ⟨e, hb, h3⟩)⟩⟩), by rw [hLo e hep]; exact h3⟩
      · exact ⟨fun e => h1 e.symm, .inr ⟨p, (hE i p).2 (.inl ⟨h2, rfl⟩), by rw [hLp]; exact h3⟩⟩
    · rintro ⟨h1, h2 | ⟨e, h2, h3⟩⟩
      · obtain ⟨h3, h4⟩ := (hA i x).1 h2
        refine ⟨hip, fun e => ?_, .inl ⟨h1, .inl h3⟩⟩
        subst e
        exact (h4 (hall i hip (.inl (h.sy i x hgi h3).1))).1 rfl
      · rcases (hE i e).1 h2 with ⟨h4, rfl⟩ | ⟨h4, h5⟩
        · rw [hLp] at h3
          exact ⟨hip, (hal x h3).2.2, .inr ⟨fun e => h1 e.symm, h4, h3⟩⟩
        · rw [hLo e (hEp i e hgi h4)] at h3
          have h6 := hst i e hgi hip h4 h5
          exact ⟨hip, hxp i e x hgi hip h4 h6 h3, .inl ⟨h1, .inr ⟨e, h4, h3⟩⟩⟩
  have hdr : ∀ v, v < adj.length → 0 ≤ (qgN adj.length q p).D v ∧ (qgN adj.length q p).D v ≤ 200 := by
    intro v hv
    show 0 ≤ nxD adj.length q.A q.E q.L q.D ((adj.length : Int) - (nB adj.length (upd q.G p true) : Int)) p v ∧ nxD adj.length q.A q.E q.L q.D ((adj.length : Int) - (nB adj.length (upd q.G p true) : Int)) p v ≤ 200
    unfold nxD
    split
    · rename_i ha
      have h2 := all_left h hp ha
      have := nxB_rng (n := adj.length) (A := q.A) (E := q.E) (L := q.L) (D := q.D) (left := (adj.length : Int) - k) (p := p) hv ha (h.dr v hv).1 (by omega)
      rw [hleft]
      omega
    · exact h.dr v hv
  refine ⟨fun v x h1 => h.rA v x ((hA v x).1 h1).1, fun v e h1 => ?_, fun e x h1 => ?_, fun v x h1 h2 => ?_, fun v e h1 h2 => ?_, fun v e x h1 h2 h3 => ?_, hbt, hct, hdr, fun i hi hg => ?_⟩
  · rcases (hE v e).1 h1 with ⟨h2, rfl⟩ | ⟨h2, _⟩
    · exact ⟨(hal v h2).1, hpn⟩
    · exact h.rE v e h2
  · by_cases e1 : e = p
    · subst e1; rw [hLp] at h1; exact (hal x h1).1
    · rw [hLo e e1] at h1; exact h.rL e x h1
  · obtain ⟨h3, h4⟩ := (hG v).1 h1
    obtain ⟨h5, h6⟩ := (hA v x).1 h2
    have h7 := h.sy v x h4 h5
    have hx : x ≠ p := fun e => by subst e; exact (h6 (hall v h3 (.inl h7.1))).1 rfl
    refine ⟨(hA x v).2 ⟨h7.1, fun ha => ⟨h3, fun hb => (h6 hb).2 ha⟩⟩, (hG x).2 ⟨hx, h7.2⟩⟩
  · obtain ⟨h3, h4⟩ := (hG v).1 h1
    rcases (hE v e).1 h2 with ⟨h5, rfl⟩ | ⟨h5, h6⟩
    · exact ⟨by show upd q.G e true e = true; rw [upd_same], by rw [hLp]; exact h5⟩
    · have := h.eg v e h4 h5
      exact ⟨hGt e this.1, by rw [hLo e (hEp v e h4 h5)]; exact this.2⟩
  · obtain ⟨h4, h5⟩ := (hG v).1 h1
    rcases (hE v e).1 h2 with ⟨h6, rfl⟩ | ⟨h6, h7⟩
    · rw [hLp] at h3
      obtain ⟨a1, a2, a3⟩ := hal x h3
      exact ⟨(hG x).2 ⟨a3, a2⟩, (hE x e).2 (.inl ⟨h3, rfl⟩)⟩
    · rw [hLo e (hEp v e h5 h6)] at h3
      have h8 := hst v e h5 h4 h6 h7
      obtain ⟨a1, a2⟩ := h.lx v e x h5 h6 h3
      exact ⟨(hG x).2 ⟨hxp v e x h5 h4 h6 h8 h3, a1⟩, (hE x e).2 (.inr ⟨a2, fun _ => h8⟩)⟩
  -- the degree
  · obtain ⟨hip, hgi⟩ := (hG i).1 hg
    have hd := h.dg i hi hgi
    have hdS : dgS adj (gnS q) i = nB adj.length (bT adj (gnS q) i) := rfl
    have hdN : dgS adj (gnS (qgN adj.length q p)) i = nB adj.length (bT adj (gnS (qgN adj.length q p)) i) := rfl
    show (dgS adj (gnS (qgN adj.length q p)) i : Int) ≤ nxD adj.length q.A q.E q.L q.D ((adj.length : Int) - (nB adj.length (upd q.G p true) : Int)) p i
    unfold nxD
    by_cases ha : allB adj.length q.A q.E q.L p i = true
    · rw [if_pos ha, hleft]
      have hout := nB_out (P := allB adj.length q.A q.E q.L p) hi ha
      have hnx : ∀ x, (qgN adj.length q p).A i x = nxA adj.length q.A q.E q.L p i x := fun x => rfl
      unfold nxB
      refine min3_ge ?_ ?_ ?_
      · have h1 : nB adj.length (bT adj (gnS (qgN adj.length q p)) i) ≤ nB adj.length (fun x => bT adj (gnS q) i x || (allB adj.length q.A q.E q.L p x && decide (x ≠ i))) := nB_mono fun x _ hx => by
          obtain ⟨_, _, h3 | ⟨h3, _, h4⟩⟩ := (bt_next hV h hp i x).1 hx
          · rw [h3, Bool.true_or]
          · rw [h4, decide_eq_true (show x ≠ i from fun e => h3 e.symm)]; simp
        have h2 := nB_sub (n := adj.length) (P := bT adj (gnS q) i) (Q := fun x => allB adj.length q.A q.E q.L p x && decide (x ≠ i))
        omega
      · have h1 := nB_or (n := adj.length) (p := upd (qgN adj.length q p).G i true) (q := bT adj (gnS (qgN adj.length q p)) i) fun x hx hu => by
          rw [Bool.eq_false_iff]
          intro hb
          obtain ⟨b1, b2, b3, _⟩ := bT_iff.1 hb
          unfold upd at hu
          split at hu
          · rename_i e; exact b1 e.symm
          · exact b3 hu
        have h2 := nB_new (P := (qgN adj.length q p).G) hi hg
        have h3 := nB_le adj.length (fun x => upd (qgN adj.length q p).G i true x || bT adj (gnS (qgN adj.length q p)) i x)
        omega
      · have h1 : nB adj.length (bT adj (gnS (qgN adj.length q p)) i) ≤ nB adj.length (fun x => (nxA adj.length q.A q.E q.L p i x || (allB adj.length q.A q.E q.L p x && decide (x ≠ i))) || (List.range adj.length).any fun e => (nxE adj.length q.A q.E q.L p i e && decide (e ≠ p)) && (nxL adj.length q.A q.E q.L p e x && !allB adj.length q.A q.E q.L p x)) := nB_mono fun x _ hx => by
          obtain ⟨h3, h4 | ⟨e, h4, h5⟩⟩ := (hbt i x hi hg).1 hx
          · rw [hnx] at h4
            rw [h4]; simp
          · cases hax : allB adj.length q.A q.E q.L p x with
            | true => rw [decide_eq_true h3]; simp
            | false =>
              have hep : e ≠ p := fun e1 => by subst e1; rw [hLp, hax] at h5; cases h5
              have her : e < adj.length := by
                rcases (hE i e).1 h4 with ⟨_, e1⟩ | ⟨e1, _⟩
                · exact absurd e1 hep
                · exact (h.rE i e e1).2
              rw [Bool.or_eq_true, List.any_eq_true]
              refine .inr ⟨e, List.mem_range.2 her, ?_⟩
              have h4' : nxE adj.length q.A q.E q.L p i e = true := h4
              have h5' : nxL adj.length q.A q.E q.L p e x = true := h5
              rw [h4', h5', decide_eq_true hep]; rfl
        have h2 := nB_sub (n := adj.length) (P := fun x => nxA adj.length q.A q.E q.L p i x || (allB adj.length q.A q.E q.L p x && decide (x ≠ i))) (Q := fun x => (List.range adj.length).any fun e => (nxE adj.length q.A q.E q.L p i e && decide (e ≠ p)) && (nxL adj.length q.A q.E q.L p e x && !allB adj.length q.A q.E q.L p x))
        have h3 := nB_sub (n := adj.length) (P := nxA adj.length q.A q.E q.L p i) (Q := fun x => allB adj.length q.A q.E q.L p x && decide (x ≠ i))
        have h4 := nB_any (n := adj.length) (d := fun e => nxE adj.length q.A q.E q.L p i e && decide (e ≠ p)) (P := fun e x => nxL adj.length q.A q.E q.L p e x && !allB adj.length q.A q.E q.L p x) adj.length
        omega
    · rw [if_neg ha]
      have h1 : nB adj.length (bT adj (gnS (qgN adj.length q p)) i) ≤ nB adj.length (bT adj (gnS q) i) := nB_mono fun x _ hx => by
        obtain ⟨_, _, h3 | ⟨_, h3, _⟩⟩ := (bt_next hV h hp i x).1 hx
        · exact h3
        · exact absurd h3 ha
      omega
end
section
variable {adj : List (List Int)} (hV : Valid adj) (hn : adj.length ≤ 200)
include hV hn
theorem qgK_inv : ∀ k, k ≤ adj.length → QInv adj k (qgK adj k) ∧ (k < adj.length → IsMn (qgK adj k).D (qgK adj k).G adj.length (qgO adj k)) := by
  have mn : ∀ k q, k < adj.length → QInv adj k q → ∃ p, IsMn q.D q.G adj.length p := fun k q hk h => by
    refine mn_ex adj.length (Classical.byContradiction fun hno => ?_)
    have e : nB adj.length q.G = nB adj.length (fun _ => true) := nB_congr fun i hi => by
      cases hg : q.G i with
      | true => rfl
      | false => exact absurd ⟨i, hi, hg⟩ hno
    rw [h.ct] at e
    have : nB adj.length (fun _ => true) = adj.length := by unfold nB; rw [List.filter_eq_self.2 (by simp)]; simp
    omega
  intro k
  induction k with
  | zero =>
    intro _
    refine ⟨qinv0 hV hn, fun h0 => ?_⟩
    obtain ⟨p, hp⟩ := mn 0 _ h0 (qinv0 hV hn)
    have : qgO adj 0 = p := qgP_eq hp
    rw [this]; exact hp
  | succ k ih =>
    intro hk
    obtain ⟨h1, h2⟩ := ih (by omega)
    have h3 : QInv adj (k + 1) (qgK adj (k + 1)) := qinv_next hV hn h1 (h2 (by omega))
    refine ⟨h3, fun h0 => ?_⟩
    obtain ⟨p, hp⟩ := mn (k + 1) _ h0 h3
    have : qgO adj (k + 1) = p := qgP_eq hp
    rw [this]; exact hp
end
end Go.Fw
end

section
namespace Go.Fw
set_option linter.unusedSimpArgs false
set_option linter.unusedVariables false
open Go
theorem nB_zero {n : Nat} : nB n (fun _ => false) = 0 := by unfold nB; rw [List.filter_eq_nil_iff.2 (by simp)]; rfl
theorem sM_zero {n : Nat} : sM n (fun _ => false) 0 = some ([], 0) := by
  unfold sM sL
  rw [List.filter_eq_nil_iff.2 (by simp)]; rfl
section
variable {adj : List (List Int)} (hV : Valid adj) (hn : adj.length ≤ 200)
include hV hn
theorem newQ_eq : d_mindeg_newQuotient ((adj, ()), ()) =
    some ((fT adj.length (fun v => sM adj.length (nbB adj v) (nB adj.length (nbB adj v))), (fT adj.length (fun v => sM adj.length (fun _ => false) 0), (fT adj.length (fun _ => none), (fT adj.length (fun v => (((adj.getD v []).length : Nat) : Int)), (fT adj.length (fun _ => false), ((adj.length : Int), ())))))), ()) := by
  unfold d_mindeg_newQuotient
  simp only [madeO_ok (show adj.length ≤ 4294967296 by omega), Option.bind_some, fT_replicate]
  refine bindR ((fT adj.length (fun v => sM adj.length (nbB adj v) (nB adj.length (nbB adj v))), (fT adj.length (fun v => sM adj.length (fun _ => false) 0), (fT adj.length (fun _ => none), (fT adj.length (fun v => (((adj.getD v []).length : Nat) : Int)), (fT adj.length (fun _ => false), ((adj.length : Int), ())))))), ()) rfl ?_
  refine loop_for adj.length (fun k => ((fT adj.length (pre k (fun v => sM adj.length (nbB adj v) (nB adj.length (nbB adj v))) (fun _ => none)), (fT adj.length (pre k (fun v => sM adj.length (fun _ => false) 0) (fun _ => none)), (fT adj.length (fun _ => none), (fT adj.length (pre k (fun v => (((adj.getD v []).length : Nat) : Int)) (fun _ => 0)), (fT adj.length (fun _ => false), ((adj.length : Int), ())))))), ())) 0 rfl ?_ (Nat.zero_le _) ?_ ?_
  · rw [pre_zero, pre_zero, pre_zero]
  · intro v _ hv
    have hrow := (Valid_iff adj).1 hV v hv
    have hgd : adj.getD v [] = adj[v] := getD_lt hv []
    have hlen : adj[v].length ≤ adj.length := by
      rw [← hgd, row_nB hV hv, natL_length]; exact nB_le _ _
    simp (disch := omega) only [cond_dec, if_pos, getN_some (List.getElem?_eq_getElem hv), Option.bind_some, fT_length, idxN_nat, atO_fT, fT_set, Option.map_some]
    refine bindR ((fT adj.length (pre (v + 1) (fun v => sM adj.length (nbB adj v) (nB adj.length (nbB adj v))) (fun _ => none)), (fT adj.length (pre (v + 1) (fun v => sM adj.length (fun _ => false) 0) (fun _ => none)), (fT adj.length (fun _ => none), (fT adj.length (pre (v + 1) (fun v => (((adj.getD v []).length : Nat) : Int)) (fun _ => 0)), (fT adj.length (fun _ => false), ((adj.length : Int), ())))))), ()) (by simp (disch := omega) only [wrap_inc]) ?_
    rw [pre_put (P := fun v => sM adj.length (fun _ => false) 0) sM_zero.symm, pre_put (P := fun v => (((adj.getD v []).length : Nat) : Int)) (by rw [hgd])]
    refine loop_for adj[v].length (fun j => ((fT adj.length (upd (pre v (fun v => sM adj.length (nbB adj v) (nB adj.length (nbB adj v))) (fun _ => none)) v (sM adj.length (fun x => decide ((x : Int) ∈ adj[v].take j)) (nB adj.length (fun x => decide ((x : Int) ∈ adj[v].take j))))), (fT adj.length (pre (v + 1) (fun v => sM adj.length (fun _ => false) 0) (fun _ => none)), (fT adj.length (fun _ => none), (fT adj.length (pre (v + 1) (fun v => (((adj.getD v []).length : Nat) : Int)) (fun _ => 0)), (fT adj.length (fun _ => false), ((adj.length : Int), ())))))), ())) 0 rfl ?_ (Nat.zero_le _) ?_ ?_
    · have e : (fun x : Nat => decide ((x : Int) ∈ adj[v].take 0)) = fun _ => false := by funext x; simp
      rw [e, nB_zero, sM_zero]
    · intro j _ hj
      have hr := hrow.2 j hj
      obtain ⟨w, hw⟩ : ∃ w : Nat, adj[v][j] = (w : Int) := ⟨adj[v][j].toNat, by omega⟩
      have hwn : w < adj.length := by omega
      simp (disch := omega) only [cond_dec, if_pos, getN_some (List.getElem?_eq_getElem hj), hw, Option.bind_some, fT_length, idxN_nat, atO_fT, fT_set, Option.map_some, upd_same, updd, mUp_cl hwn, wrap_inc]
      rw [sM_cl (P := upd (fun x => decide ((x : Int) ∈ adj[v].take j)) w true) (Q := fun x => decide ((x : Int) ∈ adj[v].take (j + 1))) (fun x hx => by
        rw [take_snoc hj |>.symm] at *
        unfold upd
        split
        · rename_i e; subst e; simp [hw]
        · rename_i e
          have : (x : Int) ≠ (w : Int) := by omega
          simp [hw, this])]
    · simp (disch := omega) only [cond_dec, if_neg]
      rw [sM_cl (P := fun x => decide ((x : Int) ∈ adj[v].take adj[v].length)) (Q := nbB adj v) (fun x hx => by
        rw [List.take_length]
        unfold nbB; rw [hgd]), pre_put rfl]
  · simp (disch := omega) only [cond_dec, if_neg]
    rw [pre_end, pre_end, pre_end]
noncomputable def qgOL (adj : List (List Int)) (k : Nat) : List Int := fT k fun j => ((qgO adj j : Nat) : Int)
noncomputable def qgBL (adj : List (List Int)) (k : Nat) : List Int := fT k fun j => qgB adj j
theorem approx_eq : d_mindeg_approx ((adj, ()), ()) = some (qgOL adj adj.length, qgBL adj adj.length, 0, ()) := by
  classical
  have h0 : chk adj = 0 := chk_zero.2 ⟨hn, hV⟩
  unfold d_mindeg_approx
  simp only [Check_eq adj (hV.hc hn), h0, Option.bind_some, bne_self_eq_false, cond_false, newQ_eq hV hn]
  refine bindR (qgOL adj adj.length, qgBL adj adj.length, ()) rfl ?_
  rw [← Ok.eq_iff]
  refine Ok.seq adj.length (fun k s => ∃ (cA cE : Nat → Nat) (M : Nat → Option (List (Int × Bool) × Nat)), (∀ e, e < adj.length → IsS adj.length (M e) ((qgK adj k).L e)) ∧ s = (qgOL adj k, qgBL adj k, (fT adj.length (fun v => sM adj.length ((qgK adj k).A v) (cA v)), (fT adj.length (fun v => sM adj.length ((qgK adj k).E v) (cE v)), (fT adj.length M, (fT adj.length (qgK adj k).D, (fT adj.length (qgK adj k).G, ((adj.length : Int) - (k : Int), ())))))), ())) 0 ⟨fun v => nB adj.length (nbB adj v), fun _ => 0, fun _ => none, fun e _ => .inl ⟨rfl, fun _ _ => rfl⟩, ?_⟩ (Nat.zero_le _) ?_ ?_
  · rw [show (adj.length : Int) - ((0 : Nat) : Int) = adj.length by omega]
    rfl
  · rintro k _ _ hk ⟨cA, cE, M, hM, rfl⟩
    obtain ⟨h, hp⟩ := qgK_inv hV hn k (by omega)
    have hp := hp hk
    have hpn := hp.1
    have l1 : (qgOL adj k).length + [((qgO adj k : Nat) : Int)].length ≤ 4294967296 := by unfold qgOL; rw [fT_length, List.length_singleton]; omega
    have l2 : (qgBL adj k).length + [(qgK adj k).D (qgO adj k)].length ≤ 4294967296 := by unfold qgBL; rw [fT_length, List.length_singleton]; omega
    have hlt2 : ∀ v, v < adj.length → allB adj.length (qgK adj k).A (qgK adj k).E (qgK adj k).L (qgO adj k) v = true → 2 ≤ (adj.length : Int) - k := fun v _ hv => by have := all_left h hp hv; omega
    obtain ⟨cA', cE', c, he⟩ := elimq_eq (G := (qgK adj k).G) (left := (adj.length : Int) - k) (cA := cA) (cE := cE) hn hpn hM h.dr (by omega) hlt2
    simp (disch := omega) only [cond_dec, if_pos, leastq_eq hn hp, Option.bind_some, limO_ok l1, limO_ok l2, fT_length, idxN_nat, atO_fT, he]
    refine Ok.some_iff.2 ⟨cA', cE', upd M (qgO adj k) (sM adj.length (allB adj.length (qgK adj k).A (qgK adj k).E (qgK adj k).L (qgO adj k)) c), ?_, ?_⟩
    · intro e he
      show IsS adj.length _ (nxL adj.length (qgK adj k).A (qgK adj k).E (qgK adj k).L (qgO adj k) e)
      unfold nxL upd
      split
      · exact .inr ⟨c, rfl⟩
      · exact hM e he
    · have hK : qgK adj (k + 1) = qgN adj.length (qgK adj k) (qgO adj k) := rfl
      have hct : nB adj.length (upd (qgK adj k).G (qgO adj k) true) = k + 1 := by rw [nB_new hpn hp.2.1, h.ct]
      rw [hK]
      unfold qgN qgOL qgBL
      rw [fT_succ, fT_succ]
      simp only
      rw [hct, show (adj.length : Int) - ((k + 1 : Nat) : Int) = (adj.length : Int) - k - 1 by omega]
      rfl
  · rintro _ ⟨cA, cE, M, hM, rfl⟩
    simp (disch := omega) only [cond_dec, if_neg]
    exact Ok.some_iff.2 rfl
theorem Approx_eq : d_mindeg_Approx ((adj, ()), ()) = some (qgOL adj adj.length, 0, ()) := by
  unfold d_mindeg_Approx
  simp only [approx_eq hV hn, Option.bind_some]
end
end Go.Fw
end

section
namespace Go.Fw
set_option linter.unusedSimpArgs false
set_option linter.unusedVariables false
open Go
theorem qg_gone {adj : List (List Int)} : ∀ k x, gnS (qgK adj k) x ↔ ∃ j, j < k ∧ x = qgO adj j
  | 0, x => ⟨fun h => (by cases h), fun ⟨j, h, _⟩ => by omega⟩
  | k + 1, x => by
      have ih := qg_gone (adj := adj) k x
      have e : gnS (qgK adj (k + 1)) x ↔ gnS (qgK adj k) x ∨ x = qgO adj k := by
        show upd (qgK adj k).G (qgO adj k) true x = true ↔ (qgK adj k).G x = true ∨ x = qgO adj k
        unfold upd
        split
        · rename_i e; simp [e]
        · rename_i e; simp [e]
      rw [e, ih]
      constructor
      · rintro (⟨j, h1, h2⟩ | h)
        · exact ⟨j, by omega, h2⟩
        · exact ⟨k, by omega, h⟩
      · rintro ⟨j, h1, h2⟩
        by_cases e2 : j = k
        · subst e2; exact .inr h2
        · exact .inl ⟨j, by omega, h2⟩
section
variable {adj : List (List Int)} (hV : Valid adj) (hn : adj.length ≤ 200)
include hV hn
theorem qg_lt {k : Nat} (hk : k < adj.length) : qgO adj k < adj.length := ((qgK_inv hV hn k (by omega)).2 hk).1
theorem qg_inj {j k : Nat} (hj : j < k) (hk : k < adj.length) : qgO adj j ≠ qgO adj k := fun e => by
  have h1 := ((qgK_inv hV hn k (by omega)).2 hk).2.1
  have h2 : gnS (qgK adj k) (qgO adj k) := (qg_gone k _).2 ⟨j, hj, e.symm⟩
  unfold gnS at h2
  rw [h1] at h2; cases h2
theorem qg_perm : IsPerm (qgOL adj adj.length) adj.length := by
  refine ⟨fT_length _ _, fun x hx => ?_, ?_⟩
  · obtain ⟨i, hi, rfl⟩ := mem_fT.1 hx
    have := qg_lt hV hn hi
    omega
  · show (fT adj.length _).Nodup
    unfold fT
    refine List.Pairwise.map (R := fun a b => a < b ∧ b < adj.length) _ (fun a b h e => qg_inj hV hn h.1 h.2 (by omega)) ?_
    refine List.Pairwise.imp_of_mem (R := fun a b => a < b) (fun ha hb h => ⟨h, List.mem_range.1 hb⟩) List.pairwise_lt_range
theorem qg_ord {k : Nat} (hk : k < adj.length) : ordN (qgOL adj adj.length) k = qgO adj k := by
  unfold ordN qgOL
  rw [getD_lt (show k < (fT adj.length fun j => ((qgO adj j : Nat) : Int)).length by rw [fT_length]; exact hk), fT_getElem]
  omega
theorem qg_ahead {k : Nat} (hk : k ≤ adj.length) : ahead (qgOL adj adj.length) k = gnS (qgK adj k) := by
  funext x
  refine propext ?_
  rw [qg_gone]
  constructor
  · rintro ⟨j, h1, h2⟩
    exact ⟨j, h1, by rw [h2, qg_ord hV hn (by omega)]⟩
  · rintro ⟨j, h1, h2⟩
    exact ⟨j, h1, by rw [h2, qg_ord hV hn (by omega)]⟩
theorem qg_dgN {k : Nat} (hk : k < adj.length) : dgN adj (qgOL adj adj.length) k = dgS adj (gnS (qgK adj k)) (qgO adj k) := by
  unfold dgN dgS
  rw [qg_ord hV hn hk, qg_ahead hV hn (by omega)]
end
end Go.Fw
end

section
namespace Go.Fw
set_option linter.unusedSimpArgs false
set_option linter.unusedVariables false
open Go
def NF (adj : List (List Int)) (S : Nat → Prop) : Prop := ∀ a b, bT adj S a b = true → Nb adj a b
def Frs (adj : List (List Int)) (par : Nat → Nat) : Prop := ∀ a b, Nb adj a b → a < b → b = par a
theorem nB_le1 {n k : Nat} : nB n (fun x => decide (x = k)) ≤ 1 := by
  by_cases h : k < n
  · rw [nB_one h]; exact Nat.le_refl _
  · have : nB n (fun x => decide (x = k)) = 0 := by
      unfold nB
      rw [List.filter_eq_nil_iff.2 fun x hx => ?_]
      · rfl
      · have := List.mem_range.1 hx
        simp; omega
    omega
theorem nB_uniq {n : Nat} {P : Nat → Bool} (h : nB n P ≤ 1) {a b : Nat} (ha : a < n) (hb : b < n) (pa : P a = true) (pb : P b = true) : a = b := by
  apply Classical.byContradiction
  intro hab
  have h1 := nB_out ha pa
  have h2 := nB_pos (P := fun x => P x && decide (x ≠ a)) hb (by simp [pb]; exact fun e => hab e.symm)
  omega
section
variable {adj : List (List Int)} (hV : Valid adj) {par : Nat → Nat} (hF : Frs adj par)
include hV
theorem bT_rng {S : Nat → Prop} {a b : Nat} (h : bT adj S a b = true) : b < adj.length := by
  obtain ⟨m, hm⟩ := walk_last (bT_iff.1 h).2.2.2
  exact (Nb.symm hV _ _ hm).1
theorem nf_next {S : Nat → Prop} {p : Nat} (h : NF adj S) (hp : ¬ S p) (hd : dgS adj S p ≤ 1) : NF adj (fun x => S x ∨ x = p) := fun a b hb => by
  rw [← bT_next hV hp] at hb
  unfold elB at hb
  split at hb
  · cases hb
  · simp only [Bool.or_eq_true, Bool.and_eq_true, decide_eq_true_eq] at hb
    rcases hb with hb | ⟨h1, h2, h3⟩
    · exact h a b hb
    · exact absurd (nB_uniq hd (bT_rng hV h2) (bT_rng hV h3) h2 h3) h1
include hF
theorem nf_leaf {S : Nat → Prop} (h : NF adj S) (hex : ∃ w, w < adj.length ∧ ¬ S w) : ∃ u, u < adj.length ∧ ¬ S u ∧ dgS adj S u ≤ 1 := by
  classical
  have key : ∀ m, (∃ w, w < m ∧ ¬ S w) → ∃ u, u < m ∧ ¬ S u ∧ ∀ w, w < u → S w := by
    intro m
    induction m with
    | zero => rintro ⟨w, hw, _⟩; omega
    | succ m ih =>
      rintro ⟨w, hw, hs⟩
      by_cases h2 : ∃ w, w < m ∧ ¬ S w
      · obtain ⟨u, h3, h4⟩ := ih h2
        exact ⟨u, by omega, h4⟩
      · have : w = m := by
          apply Classical.byContradiction
          intro e
          exact h2 ⟨w, by omega, hs⟩
        subst this
        exact ⟨w, by omega, hs, fun x hx => Classical.byContradiction fun hx2 => h2 ⟨x, hx, hx2⟩⟩
  obtain ⟨u, h1, h2, h3⟩ := key _ hex
  refine ⟨u, h1, h2, Nat.le_trans (nB_mono (n := adj.length) (p := bT adj S u) (q := fun x => decide (x = par u)) fun x _ hx => ?_) nB_le1⟩
  have hb := bT_iff.1 hx
  rw [decide_eq_true_eq]
  refine hF u x (h u x hx) ?_
  rcases Nat.lt_trichotomy u x with h4 | h4 | h4
  · exact h4
  · exact absurd h4 hb.1
  · exact absurd (h3 x h4) hb.2.2.1
theorem lst_le1 {S : Nat → Prop} (h : NF adj S) {v : Nat} (hv : IsLst adj S adj.length v) : dgS adj S v ≤ 1 := by
  obtain ⟨u, h1, h2, h3⟩ := nf_leaf hV hF h ⟨v, hv.1, hv.2.1⟩
  have := hv.2.2 u h1 h2
  omega
theorem nf_zero {S : Nat → Prop} (h : ∀ x, ¬ S x) : NF adj S := fun a b hb => by
  have e : S = fun _ => False := funext fun x => eq_false (h x)
  rw [e, bT_none hV] at hb
  exact nbB_iff.1 hb
theorem mdK_nf : ∀ k, k ≤ adj.length → NF adj (fun x => x ∈ mdK adj k) := by
  intro k
  induction k with
  | zero => intro _; exact nf_zero hV hF fun x h => by cases h
  | succ k ih =>
    intro hk
    obtain ⟨v, hv, e⟩ := mdK_lst (adj := adj) (k := k) (by omega)
    have h1 := ih (by omega)
    have := nf_next hV h1 hv.2.1 (lst_le1 hV hF h1 hv)
    have e2 : (fun x => x ∈ mdK adj (k + 1)) = fun x => x ∈ mdK adj k ∨ x = v := by
      funext x
      rw [e, List.mem_append, List.mem_singleton]
    rw [e2]; exact this
variable (hn : adj.length ≤ 200)
include hn
omit hF hn in
theorem md_ord {k v : Nat} (hk : k < adj.length) (h : mdK adj (k + 1) = mdK adj k ++ [v]) : ordN (natL (mdK adj adj.length)) k = v := by
  have h1 := mdK_at hk h
  unfold ordN
  have hl : k < (natL (mdK adj adj.length)).length := by rw [natL_length, mdK_length]; exact hk
  rw [getN_some (List.getElem?_eq_getElem hl)] at h1
  rw [getD_lt hl]
  have := Option.some.inj h1
  omega
omit hF hn in
theorem md_ahead : ∀ k, k ≤ adj.length → ∀ x, ahead (natL (mdK adj adj.length)) k x ↔ x ∈ mdK adj k := by
  intro k
  induction k with
  | zero => intro _ x; exact ⟨fun ⟨j, h, _⟩ => by omega, fun h => by cases h⟩
  | succ k ih =>
    intro hk x
    obtain ⟨v, hv, e⟩ := mdK_lst (adj := adj) (k := k) (by omega)
    rw [e, List.mem_append, List.mem_singleton, ← ih (by omega) x, ← md_ord hV (by omega) e]
    constructor
    · rintro ⟨j, h1, h2⟩
      by_cases e2 : j = k
      · subst e2; exact .inr h2
      · exact .inl ⟨j, by omega, h2⟩
    · rintro (⟨j, h1, h2⟩ | h)
      · exact ⟨j, by omega, h2⟩
      · exact ⟨k, by omega, h⟩
theorem md_le1 {k : Nat} (hk : k < adj.length) : dgN adj (natL (mdK adj adj.length)) k ≤ 1 := by
  obtain ⟨v, hv, e⟩ := mdK_lst (adj := adj) hk
  have e2 : ahead (natL (mdK adj adj.length)) k = fun x => x ∈ mdK adj k := funext fun x => propext (md_ahead hV k (by omega) x)
  have h := lst_le1 hV hF (mdK_nf hV hF k (by omega)) hv
  unfold dgN
  rw [md_ord hV hk e, e2]
  exact h
theorem qg_frs : ∀ k, k ≤ adj.length → NF adj (gnS (qgK adj k)) ∧ (∀ v, v < adj.length → (qgK adj k).G v = false → (qgK adj k).D v ≤ (dgS adj (gnS (qgK adj k)) v : Int)) ∧ (∀ v e x, (qgK adj k).G v = false → (qgK adj k).E v e = true → (qgK adj k).L e x = true → x = v) ∧ (k < adj.length → dgS adj (gnS (qgK adj k)) (qgO adj k) ≤ 1) := by
  have low : ∀ k, k ≤ adj.length → NF adj (gnS (qgK adj k)) → (∀ v, v < adj.length → (qgK adj k).G v = false → (qgK adj k).D v ≤ (dgS adj (gnS (qgK adj k)) v : Int)) → (k < adj.length → dgS adj (gnS (qgK adj k)) (qgO adj k) ≤ 1) := fun k _ h1 h2 hk => by
    obtain ⟨h, hp⟩ := qgK_inv hV hn k (by omega)
    have hp := hp hk
    have hlv : ∀ x, ¬ gnS (qgK adj k) x → (qgK adj k).G x = false := fun x hx => by
      cases e : (qgK adj k).G x with
      | false => rfl
      | true => exact absurd e hx
    obtain ⟨u, u1, u2, u3⟩ := nf_leaf hV hF h1 ⟨_, hp.1, fun e : gnS (qgK adj k) _ => by have e2 : (qgK adj k).G (qgO adj k) = true := e; rw [hp.2.1] at e2; cases e2⟩
    have a1 := h2 u u1 (hlv u u2)
    have a2 := hp.2.2 u u1 (hlv u u2)
    have a3 := h.dg _ hp.1 hp.2.1
    omega
  intro k
  induction k with
  | zero =>
    intro _
    have hz : ∀ x, ¬ gnS (qgK adj 0) x := fun x h => by cases h
    have h1 := nf_zero hV hF hz
    have h2 : ∀ v, v < adj.length → (qgK adj 0).G v = false → (qgK adj 0).D v ≤ (dgS adj (gnS (qgK adj 0)) v : Int) := fun v hv _ => by
      show (((adj.getD v []).length : Nat) : Int) ≤ _
      rw [row_nB hV hv, natL_length]
      have e : gnS (qgK adj 0) = fun _ => False := funext fun x => eq_false (hz x)
      have : bT adj (gnS (qgK adj 0)) v = nbB adj v := by rw [e]; exact funext fun x => bT_none hV v x
      unfold dgS
      rw [this]; omega
    exact ⟨h1, h2, fun v e x _ h => (by cases h), low 0 (by omega) h1 h2⟩
  | succ k ih =>
    intro hk
    obtain ⟨n1, n2, n3, n4⟩ := ih (by omega)
    have n4 := n4 (by omega)
    obtain ⟨h, hp⟩ := qgK_inv hV hn k (by omega)
    have hp := hp (by omega)
    have hK : qgK adj (k + 1) = qgN adj.length (qgK adj k) (qgO adj k) := rfl
    have hS := gn_next h hp
    have hpS : ¬ gnS (qgK adj k) (qgO adj k) := fun e => by have e2 : (qgK adj k).G (qgO adj k) = true := e; rw [hp.2.1] at e2; cases e2
    have h1 : NF adj (gnS (qgK adj (k + 1))) := by
      rw [hK, hS]
      exact nf_next hV n1 hpS n4
    have hG : ∀ x, (qgK adj (k + 1)).G x = false → x ≠ qgO adj k ∧ (qgK adj k).G x = false := fun x hx => by
      have hx : upd (qgK adj k).G (qgO adj k) true x = false := hx
      unfold upd at hx
      split at hx
      · cases hx
      · rename_i e; exact ⟨e, hx⟩
    have hal := fun x hx => all_lv h hp (x := x) hx
    have hab := fun x => all_bt h hp (x := x)
    -- the new element has at most one member
    have huq : ∀ a b, allB adj.length (qgK adj k).A (qgK adj k).E (qgK adj k).L (qgO adj k) a = true → allB adj.length (qgK adj k).A (qgK adj k).E (qgK adj k).L (qgO adj k) b = true → a = b := fun a b ha hb =>
      nB_uniq n4 (hal a ha).1 (hal b hb).1 ((hab a).1 ha) ((hab b).1 hb)
    have hEp : ∀ i e, (qgK adj k).G i = false → (qgK adj k).E i e = true → e ≠ qgO adj k := fun i e h1 h2 e3 => by
      subst e3
      have := (h.eg i _ h1 h2).1
      rw [hp.2.1] at this; cases this
    have h3 : ∀ v e x, (qgK adj (k + 1)).G v = false → (qgK adj (k + 1)).E v e = true → (qgK adj (k + 1)).L e x = true → x = v := fun v e x hg hE hL => by
      obtain ⟨g1, g2⟩ := hG v hg
      have hE : nxE adj.length (qgK adj k).A (qgK adj k).E (qgK adj k).L (qgO adj k) v e = true := hE
      have hL : nxL adj.length (qgK adj k).A (qgK adj k).E (qgK adj k).L (qgO adj k) e x = true := hL
      by_cases e1 : e = qgO adj k
      · subst e1
        unfold nxL at hL
        rw [upd_same] at hL
        unfold nxE at hE
        split at hE
        · rename_i ha; exact huq _ _ hL ha
        · exact absurd rfl (hEp v _ g2 hE)
      · unfold nxL at hL
        rw [upd_ne _ _ e1] at hL
        have hE2 : (qgK adj k).E v e = true := by
          unfold nxE at hE
          split at hE
          · simp only [Bool.or_eq_true, Bool.and_eq_true, decide_eq_true_eq] at hE
            exact (hE.resolve_right e1).1
          · exact hE
        exact n3 v e x g2 hE2 hL
    have h2 : ∀ v, v < adj.length → (qgK adj (k + 1)).G v = false → (qgK adj (k + 1)).D v ≤ (dgS adj (gnS (qgK adj (k + 1))) v : Int) := fun i hi hg => by
      obtain ⟨g1, g2⟩ := hG i hg
      have hbn := fun x => bt_next hV h hp i x
      have hdN : dgS adj (gnS (qgK adj (k + 1))) i = nB adj.length (bT adj (gnS (qgN adj.length (qgK adj k) (qgO adj k))) i) := rfl
      rw [hdN]
      show nxD adj.length (qgK adj k).A (qgK adj k).E (qgK adj k).L (qgK adj k).D ((adj.length : Int) - (nB adj.length (upd (qgK adj k).G (qgO adj k) true) : Int)) (qgO adj k) i ≤ _
      unfold nxD
      by_cases ha : allB adj.length (qgK adj k).A (qgK adj k).E (qgK adj k).L (qgO adj k) i = true
      · rw [if_pos ha]
        unfold nxB
        refine Int.le_trans (min3_le _ _ _).2.2 ?_
        have c1 : nB adj.length (allB adj.length (qgK adj k).A (qgK adj k).E (qgK adj k).L (qgO adj k)) = 1 := by
          rw [nB_congr (q := fun x => decide (x = i)) fun x _ => ?_, nB_one hi]
          rw [Bool.eq_iff_iff, decide_eq_true_eq]
          exact ⟨fun hx => huq _ _ hx ha, fun e => by rw [e]; exact ha⟩
        have c2 : (sF adj.length (fun e => nxE adj.length (qgK adj k).A (qgK adj k).E (qgK adj k).L (qgO adj k) i e && decide (e ≠ qgO adj k)) fun e => nB adj.length fun v => nxL adj.length (qgK adj k).A (qgK adj k).E (qgK adj k).L (qgO adj k) e v && !allB adj.length (qgK adj k).A (qgK adj k).E (qgK adj k).L (qgO adj k) v) = 0 := by
          unfold sF
          rw [List.sum_eq_zero_iff_forall_eq_nat.2]
          intro y hy
          obtain ⟨e, he, rfl⟩ := List.mem_map.1 hy
          obtain ⟨_, he⟩ := List.mem_filter.1 he
          rw [Bool.and_eq_true] at he
          unfold nB
          rw [List.filter_eq_nil_iff.2]
          · rfl
          · intro x _ hx
            rw [Bool.and_eq_true] at hx
            have := h3 i e x hg he.1 hx.1
            rw [this, ha] at hx
            cases hx.2
        have c3 : nB adj.length (nxA adj.length (qgK adj k).A (qgK adj k).E (qgK adj k).L (qgO adj k) i) ≤ nB adj.length (bT adj (gnS (qgN adj.length (qgK adj k) (qgO adj k))) i) := nB_mono fun x _ hx => by
          unfold nxA at hx
          rw [if_pos ha] at hx
          simp only [Bool.and_eq_true, decide_eq_true_eq] at hx
          refine (hbn x).2 ⟨g1, hx.1.2, .inl ((h.bt i x hi g2).2 ⟨fun e => ?_, .inl hx.1.1⟩)⟩
          subst e
          rw [ha] at hx; cases hx.2
        rw [c1, c2]
        omega
      · rw [if_neg ha]
        refine Int.le_trans (n2 i hi g2) ?_
        have : nB adj.length (bT adj (gnS (qgK adj k)) i) ≤ nB adj.length (bT adj (gnS (qgN adj.length (qgK adj k) (qgO adj k))) i) := nB_mono fun x _ hx => by
          refine (hbn x).2 ⟨g1, fun e => ?_, .inl hx⟩
          subst e
          rw [bT_symm hV] at hx
          exact ha ((hab i).2 hx)
        show ((nB adj.length (bT adj (gnS (qgK adj k)) i) : Nat) : Int) ≤ _
        omega
    exact ⟨h1, h2, h3, low (k + 1) hk h1 h2⟩
theorem qg_le1 {k : Nat} (hk : k < adj.length) : dgN adj (qgOL adj adj.length) k ≤ 1 := by
  rw [qg_dgN hV hn hk]
  exact (qg_frs hV hF hn k (by omega)).2.2.2 hk
end
end Go.Fw
end

section
namespace Go.Fw
set_option linter.unusedSimpArgs false
set_option linter.unusedVariables false
open Go
theorem Place_id {v n : Nat} (h : v < n) (hn : n ≤ 200) : d_sparsekit_Place ((v : Int), (n : Int), ()) = some ((v : Int), ()) := by
  rw [Place_eq _ _ (by omega) (by omega)]
  have : placeV (v : Int) (n : Int) = (v : Int) := by
    unfold placeV
    rw [Int.emod_eq_of_lt (a := (v : Int)) (b := 18446744073709551616) (by omega) (by omega), Int.emod_eq_of_lt (by omega) (by omega)]
  rw [this]
def flP (ps : List (Nat × Nat)) : List Int := ps.flatMap fun e => [(e.1 : Int), (e.2 : Int)]
theorem flP_length (ps : List (Nat × Nat)) : (flP ps).length = 2 * ps.length := by
  induction ps with
  | nil => rfl
  | cons a ps ih =>
    have : (flP (a :: ps)) = (a.1 : Int) :: (a.2 : Int) :: flP ps := rfl
    rw [this, List.length_cons, List.length_cons, ih, List.length_cons]; omega
theorem flP_at : ∀ (ps : List (Nat × Nat)) (j : Nat) (h : j < ps.length), (flP ps)[2 * j]? = some ((ps[j].1 : Nat) : Int) ∧ (flP ps)[2 * j + 1]? = some ((ps[j].2 : Nat) : Int)
  | [], j, h => by simp at h
  | a :: ps, 0, _ => ⟨rfl, rfl⟩
  | a :: ps, j + 1, h => by
      have e : (flP (a :: ps)) = (a.1 : Int) :: (a.2 : Int) :: flP ps := rfl
      have h2 := flP_at ps j (by simpa using h)
      rw [e, show 2 * (j + 1) = 2 * j + 2 by omega, show 2 * j + 2 + 1 = 2 * j + 1 + 2 by omega]
      simpa using h2
theorem flP_snoc (ps : List (Nat × Nat)) (a b : Nat) : flP ps ++ [(a : Int), (b : Int)] = flP (ps ++ [(a, b)]) := by
  unfold flP
  rw [List.flatMap_append]; rfl
theorem Graph_pairs {n : Nat} (hn : n ≤ 200) (ps : List (Nat × Nat)) (hp : ∀ e ∈ ps, e.1 < n ∧ e.2 < n) (hl : ps.length ≤ 1000000) :
    d_sparsemake_Graph ((n : Int), flP ps, ()) = some ((fromT (mT n fun a b => decide ((a, b) ∈ ps)), ()), ()) := by
  unfold d_sparsemake_Graph
  refine bindR (([], ()), mT n (fun _ _ => false), ()) ?_ ?_
  · refine bindR (([], ()), mT n (fun a b => decide ((a, b) ∈ ps)), ()) ?_ ?_
    · simp only
      rw [FromTable_eq _ (fun l hl => ?_) (by rw [mT_length]; omega)]
      · rfl
      · rw [mT_length]
        obtain ⟨i, _, rfl⟩ := mem_fT.1 hl
        exact fT_length _ _
    · refine loop_seq ps.length (fun j => (((2 * j : Nat) : Int), ([], ()), mT n (fun a b => decide ((a, b) ∈ ps.take j)), ())) 0 ?_ (Nat.zero_le _) ?_ ?_
      · have : (fun a b : Nat => decide ((a, b) ∈ ps.take 0)) = fun _ _ => false := by funext a b; simp
        rw [this]; rfl
      · intro j _ hj
        obtain ⟨g1, g2⟩ := flP_at ps j hj
        obtain ⟨p1, p2⟩ := hp _ (List.getElem_mem hj)
        have w1 : IntKind.i64.wrap (((2 * j : Nat) : Int) + 1) = ((2 * j + 1 : Nat) : Int) := wrap_inc (by omega)
        have w2 : IntKind.i64.wrap (((2 * j : Nat) : Int) + 2) = ((2 * (j + 1) : Nat) : Int) := by rw [wrap64 (by omega) (by omega)]; omega
        have c1 : decide (((2 * j + 1 : Nat) : Int) < (((flP ps).length : Nat) : Int)) = true := by rw [decide_eq_true_eq, flP_length]; omega
        have c2 : decide ((n : Int) > 0) = true := by rw [decide_eq_true_eq]; omega
        simp (disch := omega) only [w1, w2, c1, c2, beq_self_eq_true, cond_true, Option.bind_some, getN_some g1, getN_some g2, Place_id p1 hn, Place_id p2 hn, mT_length, idxN_nat, atR, fT_length, put_eq]
        rw [mT_congr (B' := fun a b => decide ((a, b) ∈ ps.take (j + 1))) fun a b _ _ => ?_]
        rw [← take_snoc hj]
        unfold upd
        by_cases e1 : a = ps[j].1
        · subst e1
          rw [if_pos rfl]
          by_cases e2 : b = ps[j].2
          · subst e2; rw [if_pos rfl]; exact (decide_eq_true (List.mem_append.2 (.inr (List.mem_singleton.2 rfl)))).symm
          · rw [if_neg e2]
            rw [Bool.eq_iff_iff]
            simp only [decide_eq_true_eq, List.mem_append, List.mem_singleton]
            exact ⟨fun h => .inl h, fun h => h.elim id fun h => absurd (congrArg Prod.snd h) e2⟩
        · rw [if_neg e1]
          rw [Bool.eq_iff_iff]
          simp only [decide_eq_true_eq, List.mem_append, List.mem_singleton]
          exact ⟨fun h => .inl h, fun h => h.elim id fun h => absurd (congrArg Prod.fst h) e1⟩
      · have w1 : IntKind.i64.wrap (((2 * ps.length : Nat) : Int) + 1) = ((2 * ps.length + 1 : Nat) : Int) := wrap_inc (by omega)
        have c1 : decide (((2 * ps.length + 1 : Nat) : Int) < (((flP ps).length : Nat) : Int)) = false := by rw [decide_eq_false_iff_not, flP_length]; omega
        simp only [w1, c1, show (false == true) = false from rfl, cond_false, Option.bind_some, List.take_length]
  · refine loop_for n (fun k => (([], ()), fT k (fun _ => fT n fun _ => false), ())) 0 rfl rfl (Nat.zero_le _) ?_ ?_
    · intro k _ hk
      have hlen : ∀ (x : List Bool), (fT k (fun _ => fT n fun _ => false)).length + [x].length ≤ 4294967296 := fun x => by rw [fT_length, List.length_singleton]; omega
      simp (disch := omega) only [cond_dec, if_pos, madeO_ok (show n ≤ 4294967296 by omega), Option.bind_some, fT_replicate, limO_ok (hlen _), wrap_inc]
      rw [fT_succ]
    · simp (disch := omega) only [cond_dec, if_neg]
      rfl
def atW (l : List Int) (v : Nat) : Int := (l[v]?).getD 0
theorem AtW_eq (l : List Int) (v : Nat) : d_sparsemake_At (l, (v : Int), ()) = some (atW l v, ()) := by
  unfold d_sparsemake_At atW
  simp only [cond_dec]
  by_cases h : v < l.length
  · have hg : getI l (v : Int) = some l[v] := getN_some (List.getElem?_eq_getElem h)
    rw [if_pos (by omega), hg, List.getElem?_eq_getElem h]; rfl
  · rw [if_neg (by omega), List.getElem?_eq_none (by omega)]; rfl
def treeW (n : Nat) (l : List Int) (v : Nat) : Int := if placeV (atW l v) ((n : Int) - v) = 0 then -1 else (v : Int) + placeV (atW l v) ((n : Int) - v)
theorem treeW_pf (n : Nat) (l : List Int) {v : Nat} (hv : v < n) : treeW n l v = -1 ∨ ((v : Int) < treeW n l v ∧ treeW n l v < n) := by
  unfold treeW
  have := placeV_lt (atW l v) ((n : Int) - v) (by omega)
  split
  · exact .inl rfl
  · exact .inr (by omega)
theorem TreeW_eq {n : Nat} (hn : n ≤ 200) (l : List Int) : d_sparsemake_Tree ((n : Int), l, ()) = some (fT n (treeW n l), ()) := by
  unfold d_sparsemake_Tree
  refine bindR (fT n (treeW n l), ()) rfl (loop_for n (fun i => (fT i (treeW n l), ())) 0 rfl rfl (Nat.zero_le _) ?_ ?_)
  · intro v _ hv
    have hb := placeV_lt (atW l v) ((n : Int) - v) (by omega)
    have hw : IntKind.i64.wrap ((n : Int) - (v : Int)) = (n : Int) - v := by rw [wrap64] <;> omega
    have hw2 : IntKind.i64.wrap ((v : Int) + placeV (atW l v) ((n : Int) - v)) = (v : Int) + placeV (atW l v) ((n : Int) - v) := by rw [wrap64] <;> omega
    have hpl : d_sparsekit_Place (atW l v, (n : Int) - (v : Int), ()) = some (placeV (atW l v) ((n : Int) - v), ()) := Place_eq _ _ (by omega) (by omega)
    have hlen : ∀ x : Int, (fT v (treeW n l)).length + [x].length ≤ 4294967296 := fun x => by rw [fT_length, List.length_singleton]; omega
    simp (disch := omega) only [cond_dec, if_pos, AtW_eq, Option.bind_some, hw, hpl, hw2, beqI]
    rw [fT_succ]
    by_cases e : placeV (atW l v) ((n : Int) - v) = 0
    · rw [if_pos (show (v : Int) + placeV (atW l v) ((n : Int) - v) = v by omega)]
      have e2 : treeW n l v = -1 := if_pos e
      simp (disch := omega) only [Option.bind_some, limO_ok (hlen _), e2, wrap_inc]
    · rw [if_neg (show ¬ (v : Int) + placeV (atW l v) ((n : Int) - v) = v by omega)]
      have e2 : treeW n l v = (v : Int) + placeV (atW l v) ((n : Int) - v) := if_neg e
      simp (disch := omega) only [Option.bind_some, limO_ok (hlen _), e2, wrap_inc]
  · simp (disch := omega) only [cond_dec, if_neg]
def frP (n : Nat) (l : List Int) (k : Nat) : List (Nat × Nat) := (List.range k).filterMap fun v => if 0 ≤ treeW n l v then some (v, (treeW n l v).toNat) else none
theorem mem_frP {n : Nat} {l : List Int} {k a b : Nat} : (a, b) ∈ frP n l k ↔ a < k ∧ 0 ≤ treeW n l a ∧ b = (treeW n l a).toNat := by
  unfold frP
  rw [List.mem_filterMap]
  constructor
  · rintro ⟨v, hv, e⟩
    split at e
    · rename_i h
      simp only [Option.some.injEq, Prod.mk.injEq] at e
      obtain ⟨rfl, rfl⟩ := e
      exact ⟨List.mem_range.1 hv, h, rfl⟩
    · cases e
  · rintro ⟨h1, h2, rfl⟩
    exact ⟨a, List.mem_range.2 h1, by rw [if_pos h2]⟩
theorem frP_length (n : Nat) (l : List Int) (k : Nat) : (frP n l k).length ≤ k := by
  unfold frP
  exact Nat.le_trans (List.length_filterMap_le _ _) (by simp)
theorem MindegForest_true (n : Int) (l : List Int) : d_sparselaw16q_MindegForest (n, l, ()) = some (true, ()) := by
  classical
  rw [← Ok.eq_iff]
  unfold d_sparselaw16q_MindegForest
  simp only [cond_dec, awake16, Option.bind_some, Place_eq n 13 (by omega) (by omega)]
  refine Ok.ite (fun _ => Ok.some_iff.2 rfl) (fun hl => ?_)
  obtain ⟨m, hm, hm2⟩ := place_nat n 13 (by omega)
  have hm3 : m ≤ 12 := by omega
  rw [hm]
  simp only [TreeW_eq (show m ≤ 200 by omega), Option.bind_some]
  refine Ok.bind_of (P := fun r => r = (flP (frP m l m), ())) ?_ ?_
  · refine Ok.of_eq (loop_for m (fun k => (flP (frP m l k), ())) 0 rfl rfl (Nat.zero_le _) ?_ ?_) rfl
    · intro v _ hv
      have hpf := treeW_pf m l hv
      have hs : frP m l (v + 1) = frP m l v ++ (if 0 ≤ treeW m l v then [(v, (treeW m l v).toNat)] else []) := by
        unfold frP
        rw [List.range_succ, List.filterMap_append]
        congr 1
        simp only [List.filterMap_cons, List.filterMap_nil]
        split <;> simp_all
      simp (disch := omega) only [if_pos hv, if_pos (show (v : Int) < (m : Int) by omega), getI_fT hv, Option.bind_some]
      by_cases h : 0 ≤ treeW m l v
      · have hlen : (flP (frP m l v)).length + [(v : Int), treeW m l v].length ≤ 4294967296 := by
          have := frP_length m l v
          rw [flP_length]; simp; omega
        simp (disch := omega) only [if_pos (show treeW m l v ≥ 0 from h), Option.bind_some, limO_ok hlen, wrap_inc]
        rw [hs, if_pos h, ← flP_snoc, show ((treeW m l v).toNat : Int) = treeW m l v by omega]
      · simp (disch := omega) only [if_neg (show ¬ treeW m l v ≥ 0 from h), Option.bind_some, wrap_inc]
        rw [hs, if_neg h, List.append_nil]
    · simp (disch := omega) only [if_neg]
  rintro _ rfl
  have hpr : ∀ e ∈ frP m l m, e.1 < m ∧ e.2 < m := fun ⟨a, b⟩ he => by
    obtain ⟨h1, h2, h3⟩ := mem_frP.1 he
    have := treeW_pf m l h1
    exact ⟨h1, by subst h3; show (treeW m l a).toNat < m; omega⟩
  have hlp := frP_length m l m
  simp only [Graph_pairs (show m ≤ 200 by omega) (frP m l m) hpr (by omega), Option.bind_some]
  have hF : Frs (fromT (mT m fun a b => decide ((a, b) ∈ frP m l m))) (fun a => (treeW m l a).toNat) := fun a b hab hlt => by
    obtain ⟨h1, h2⟩ := hab
    have hal : a < m := by rw [fromT_length, mT_length] at h1; exact h1
    have h2 : (b : Int) ∈ lineT (mT m fun a b => decide ((a, b) ∈ frP m l m)) a m := by
      have : (fromT (mT m fun a b => decide ((a, b) ∈ frP m l m)))[a] = lineT (mT m fun a b => decide ((a, b) ∈ frP m l m)) a m := by simp [fromT, mT_length]
      rw [this] at h2; exact h2
    obtain ⟨h3, h4, h5⟩ := mem_lineT.1 h2
    have bit : ∀ x y, x < m → y < m → bitT (mT m fun a b => decide ((a, b) ∈ frP m l m)) x y = decide ((x, y) ∈ frP m l m) := fun x y hx hy => by
      have e := bitT_get (t := mT m fun a b => decide ((a, b) ∈ frP m l m)) (v := x) (w := y) (by rw [mT_length]; exact hx) (by
        unfold mT; rw [fT_getElem, fT_length]; exact hy)
      rw [e]
      unfold mT
      simp only [fT_getElem]
    rw [bit a b hal h3, bit b a h3 hal, Bool.or_eq_true, decide_eq_true_eq, decide_eq_true_eq, mem_frP, mem_frP] at h5
    rcases h5 with h5 | h5
    · exact h5.2.2
    · have := treeW_pf m l h3
      omega
  have hal : (fromT (mT m fun a b => decide ((a, b) ∈ frP m l m))).length = m := by rw [fromT_length, mT_length]
  have hV := fromT_valid (mT m fun a b => decide ((a, b) ∈ frP m l m))
  generalize fromT (mT m fun a b => decide ((a, b) ∈ frP m l m)) = adj at hF hal hV
  subst hal
  have hn : adj.length ≤ 200 := by omega
  simp only [Exact_eq hV hn, Approx_eq hV hn, Degrees_eq hV hm3 (md_perm hV hn), Degrees_eq hV hm3 (qg_perm hV hn), Option.bind_some, bne_self_eq_false, beq_self_eq_true, cond_true, cond_false, fT_length]
  refine Ok.bind_of (P := fun r => r = .inl ()) ?_ (by rintro _ rfl; exact Ok.some_iff.2 rfl)
  refine Ok.of_eq (loop_for adj.length (fun _ => ()) 0 rfl rfl (Nat.zero_le _) ?_ ?_) rfl
  · intro k _ hk
    have h1 := md_le1 hV hF hn hk
    have h2 := qg_le1 hV hF hn hk
    have d1 : decide ((dgN adj (natL (mdK adj adj.length)) k : Int) > 1) = false := by rw [decide_eq_false_iff_not]; omega
    simp (disch := omega) only [if_pos, getI_fT hk, Option.bind_some, d1, beq_self_eq_true, cond_true, if_neg, wrap_inc]
  · simp (disch := omega) only [if_neg]
end Go.Fw
end
