/-
  Parts of the proof: Pl20, Ev21, Pl21, Pl22, Pl23, Pl24, Pl25, Pl26, Pl27, Pl28, Th4, Pl29, Pl30, Pl31, Pl32, Pl33, Pl34, Pl35: the framework (Fw), pure forms (Dn), plain laws (Pl, Th), calls of functions (Ok).
-/
import Derived.Test.YtojgmlfnbchloaaB5cbf6f8b

set_option linter.all false
section
set_option linter.unusedSimpArgs false
set_option linter.unusedVariables false
namespace Go.Fw
section
variable {adj : List (List Int)} (hV : Valid adj) (hn : adj.length ≤ 200)
include hV hn
theorem parF_iff {u p : Nat} : RelF adj.length (parF adj) u p ↔ IsPar (Nb adj) u p := by
  have hF := forest_of hV hn
  rw [← hF.parI, fT_get?]
  constructor
  · rintro ⟨h1, h2⟩
    rw [if_pos h1, h2]
  · intro h
    split at h
    · rename_i h1
      exact ⟨h1, by simpa using h⟩
    · cases h
theorem pf_parF : PF adj.length (parF adj) := by
  intro j hj
  have hF := forest_of hV hn
  rcases hF.none j (parF adj j) (fT_get hj) with h | ⟨p, h⟩
  · exact .inl h
  · right
    have hp := (parF_iff hV hn).1 ⟨hj, h⟩
    have h1 := (hp.fill).lt hV
    have := hp.1
    omega
theorem sub_anc {u v : Nat} : Sub adj.length (parF adj) u v ↔ Anc (Nb adj) u v := by
  constructor
  · intro h
    induction h with
    | refl => exact .refl _
    | step h _ ih => exact .up ((parF_iff hV hn).1 h) ih
  · intro h
    induction h with
    | refl => exact .refl _
    | up h _ ih => exact .step ((parF_iff hV hn).2 h) ih
theorem Post_eq : d_sparseref21q_Post ((adj, ()), ()) = some ((open Classical in decide (Contig adj.length (parF adj))), ()) := by
  classical
  have hf := pf_parF hV hn
  unfold d_sparseref21q_Post
  simp only [refParent_eq hV hn, Option.bind_some, refSizes_eq hf hn, fT_length]
  generalize hN : adj.length = n at hf hn
  generalize parF adj = f at hf
  rw [← Ok.eq_iff]
  refine Ok.bind_of (P := fun q => match q with | .inl _ => Contig n f | .inr r => ¬ Contig n f ∧ r = (false, ())) ?_ ?_
  · refine Ok.for n (fun v _ => ∀ u, u < v → ∀ w, w < n → Sub n f u w → w < u + sz n f w) (i0 := 0) rfl (fun u h => by omega) (Nat.zero_le _) ?_ ?_
    · rintro v ⟨⟩ _ hv hI
      simp (disch := omega) only [cond_dec, if_pos, getI_fT, Option.bind_some]
      refine Ok.bind_of (P := fun q => match q with | .inl _ => ∀ w, w < n → Sub n f v w → w < v + sz n f w | .inr r => ∃ x, r = .inr (.inr (false, x)) ∧ ¬ Contig n f) ?_ ?_
      · refine Ok.loop (fun s => (s.1 = -1 ∧ ∀ w, w < n → Sub n f v w → w < v + sz n f w) ∨ ∃ p : Nat, s.1 = (p : Int) ∧ p < n ∧ Sub n f v p ∧
          ∀ w, w < n → Sub n f v w → w < p → w < v + sz n f w) (fun s => if s.1 < 0 then 0 else n - s.1.toNat) ?_ ?_
        · have h0 : v < v + sz n f v := by have := sz_pos (f := f) hv; omega
          rcases hf v hv with h | h
          · refine .inl ⟨h, fun w hw hs => ?_⟩
            rcases Sub.step_iff.1 hs with e | ⟨r, h2, _⟩
            · rw [← e]; exact h0
            · have := h2.2; omega
          · obtain ⟨p, hp⟩ : ∃ p : Nat, f v = (p : Int) := ⟨(f v).toNat, by omega⟩
            refine .inr ⟨p, hp, by omega, .step ⟨hv, hp⟩ (.refl _), fun w hw hs hwp => ?_⟩
            rcases Sub.step_iff.1 hs with e | ⟨r, h2, h3⟩
            · rw [← e]; exact h0
            · have := h2.2
              obtain rfl : r = p := by omega
              have := Sub.le hf h3; omega
        · rintro ⟨s, ⟨⟩⟩ (⟨hs, ho⟩ | ⟨p, hs, hp, hvp, ho⟩)
          · simp only at hs
            subst hs
            simp (disch := omega) only [if_neg]
            exact Ok.some_iff.2 ho
          · simp only at hs
            subst hs
            have hsz := sz_le hf hp
            simp (disch := omega) only [if_pos, getI_fT, Option.bind_some]
            rw [wrap64 (x := (p : Int) - (sz n f p : Int)) (by omega) (by omega), wrap64 (by omega) (by omega)]
            by_cases hb : p < v + sz n f p
            · simp (disch := omega) only [if_neg]
              refine Ok.some_iff.2 ⟨?_, ?_⟩
              · rcases hf p hp with h | h
                · refine .inl ⟨h, fun w hw hs => ?_⟩
                  rcases Nat.lt_or_ge w p with h1 | h1
                  · exact ho w hw hs h1
                  · have := Sub.comp hf hvp hs h1
                    rcases Sub.step_iff.1 this with e | ⟨r, h2, _⟩
                    · rw [← e]; exact hb
                    · have := h2.2; omega
                · obtain ⟨r, hr⟩ : ∃ r : Nat, f p = (r : Int) := ⟨(f p).toNat, by omega⟩
                  refine .inr ⟨r, hr, by omega, hvp.trans (.step ⟨hp, hr⟩ (.refl _)), fun w hw hs hwr => ?_⟩
                  rcases Nat.lt_or_ge w p with h1 | h1
                  · exact ho w hw hs h1
                  · have := Sub.comp hf hvp hs h1
                    rcases Sub.step_iff.1 this with e | ⟨r', h2, h3⟩
                    · rw [← e]; exact hb
                    · have := h2.2
                      obtain rfl : r' = r := by omega
                      have := Sub.le hf h3; omega
              · show (if f p < 0 then 0 else n - (f p).toNat) < (if (p : Int) < 0 then 0 else n - (p : Int).toNat)
                have := hf p hp
                split <;> rw [if_neg (by omega)] <;> omega
            · simp (disch := omega) only [if_pos]
              exact Ok.some_iff.2 ⟨_, rfl, fun hc => hb (hc p hp v hvp)⟩
      · rintro (⟨⟩ | r) h
        · refine Ok.some_iff.2 ⟨wrap_inc (by omega), fun u hu w hw hs => ?_⟩
          rcases Nat.lt_or_ge u v with h1 | h1
          · exact hI u h1 w hw hs
          · obtain rfl : u = v := by omega
            exact h w hw hs
        · obtain ⟨⟨⟩, rfl, h⟩ := h
          exact Ok.some_iff.2 ⟨h, rfl⟩
    · rintro ⟨⟩ hI
      simp (disch := omega) only [cond_dec, if_neg]
      refine Ok.some_iff.2 (fun w hw u hu => ?_)
      have := Sub.le hf hu
      exact hI u (by omega) w hw hu
  · rintro (⟨⟩ | r) h
    · exact Ok.some_iff.2 (by rw [decT h])
    · obtain ⟨h1, rfl⟩ := h
      exact Ok.some_iff.2 (by rw [decF h1])
end
/-- P21's first errors. -/
noncomputable def bgn (adj : List (List Int)) : Int := if chk adj ≠ 0 then chk adj else (open Classical in if Contig adj.length (parF adj) then 0 else 210)
theorem bgn_zero {adj : List (List Int)} : bgn adj = 0 ↔ adj.length ≤ 200 ∧ Valid adj ∧ Contig adj.length (parF adj) := by
  unfold bgn
  by_cases h : chk adj = 0
  · rw [if_neg (by simpa using h)]
    have := chk_zero.1 h
    by_cases h2 : Contig adj.length (parF adj)
    · rw [if_pos h2]; exact ⟨fun _ => ⟨this.1, this.2, h2⟩, fun _ => rfl⟩
    · rw [if_neg h2]; exact ⟨fun h => by omega, fun h => absurd h.2.2 h2⟩
  · rw [if_pos h]
    exact ⟨fun h2 => absurd h2 h, fun h2 => chk_zero.2 ⟨h2.1, h2.2.1⟩⟩
theorem Begins_eq {adj : List (List Int)} (hc : ∀ l ∈ adj, l.length < 4611686018427387904) : d_sparseref21q_Begins ((adj, ()), ()) = some (bgn adj, ()) := by
  classical
  unfold d_sparseref21q_Begins bgn
  simp only [refCheck_eq adj hc, Option.bind_some, bneI]
  by_cases h : chk adj = 0
  · have hh := chk_zero.1 h
    simp only [h, decide_true, Bool.not_true, cond_false, Post_eq hh.2 hh.1, Option.bind_some]
    by_cases h2 : Contig adj.length (parF adj)
    · simp [h2]
    · simp [h2]
  · simp only [decF h, Bool.not_false, cond_true]
    rw [if_pos h]
/-- What the functions need to know. -/
noncomputable def anV (adj : List (List Int)) : List Int × (List Int × (List (List Int) × Unit)) := (fT adj.length (parF adj), (fT adj.length (fun v => (sz adj.length (parF adj) v : Int)), (fT adj.length (colV adj), ())))
theorem analyse_eq {adj : List (List Int)} (hc : ∀ l ∈ adj, l.length < 4611686018427387904) : d_supernode_analyse ((adj, ()), ()) = some (if bgn adj = 0 then anV adj else ([], ([], ([], ()))), bgn adj, ()) := by
  classical
  unfold d_supernode_analyse
  by_cases h : chk adj = 0
  · have hh := chk_zero.1 h
    have hf := pf_parF hh.2 hh.1
    simp only [Parent_eq hh.2 hh.1, Option.bind_some, bneI, decide_true, Bool.not_true, cond_false, etreeSizes_eq hf hh.1, contiguous_eq hf hh.1, Columns_ok hh.2 hc hh.1]
    by_cases h2 : Contig adj.length (parF adj)
    · have hb : bgn adj = 0 := bgn_zero.2 ⟨hh.1, hh.2, h2⟩
      simp only [h2, decide_true, Bool.not_true, cond_false, hb, if_true]
      rfl
    · have hb : bgn adj = 210 := by unfold bgn; rw [if_neg (by simpa using h), if_neg h2]
      simp only [h2, decide_false, Bool.not_false, cond_true, hb, if_neg (show ¬ (210 : Int) = 0 by omega)]
  · have hb : bgn adj = chk adj := by unfold bgn; rw [if_pos h]
    simp only [Parent_bad hc h, Option.bind_some, bneI, decF h, Bool.not_false, cond_true, hb, if_neg h]
/-- The end of supernode k, not counted. -/
def nxI (starts : List Int) (n k : Nat) : Int := (starts[k + 1]?).getD n
/-- A permitted partition. -/
def PermI (n : Nat) (f : Nat → Int) (starts : List Int) : Prop := (n = 0 ∧ starts = []) ∨ (0 < n ∧ starts[0]? = some 0 ∧ ∀ k, (h : k < starts.length) → starts[k] < nxI starts n k ∧ nxI starts n k ≤ n ∧ nxI starts n k ≤ starts[k] + (sz n f (nxI starts n k - 1).toNat : Int))
theorem PermI.nonneg {n : Nat} {f : Nat → Int} {starts : List Int} {m : Nat} (h0 : starts[0]? = some 0) (hI : ∀ k, k < m → (h : k < starts.length) → starts[k] < nxI starts n k) : ∀ k, k ≤ m → (h : k < starts.length) → 0 ≤ starts[k] := by
  intro k
  induction k with
  | zero =>
    intro _ h
    rw [List.getElem?_eq_getElem h] at h0
    simp only [Option.some.injEq] at h0
    omega
  | succ k ih =>
    intro hk h
    have h1 := ih (by omega) (by omega)
    have h2 := hI k (by omega) (by omega)
    unfold nxI at h2
    rw [List.getElem?_eq_getElem h] at h2
    simp only [Option.getD_some] at h2
    omega
section
variable {n : Nat} {f : Nat → Int} (hf : PF n f) (hn : n ≤ 200)
include hf hn
theorem permitted_eq (cols : List (List Int)) (starts : List Int) (hs : starts.length < 4611686018427387904) :
    d_supernode_analysis_permitted ((fT n f, (fT n (fun v => (sz n f v : Int)), (cols, ()))), starts, ()) = some ((open Classical in decide (PermI n f starts)), ()) := by
  classical
  unfold d_supernode_analysis_permitted
  simp only [fT_length, beqI]
  by_cases h1 : n = 0
  · subst h1
    have e : decide (((starts.length : Nat) : Int) = 0) = decide (PermI 0 f starts) := by
      rw [decide_eq_decide]
      unfold PermI
      constructor
      · intro h; exact .inl ⟨rfl, List.length_eq_zero_iff.1 (by omega)⟩
      · rintro (⟨_, h⟩ | ⟨h, _⟩)
        · rw [h]; rfl
        · omega
    simp only [e]
    simp
  · have e1 : decide (((n : Nat) : Int) = 0) = false := decide_eq_false (by omega)
    by_cases h2 : starts.length = 0
    · have e2 : decide (((starts.length : Nat) : Int) = 0) = true := decide_eq_true (by omega)
      have e3 : decide (PermI n f starts) = false := decide_eq_false (by
        rintro (⟨h, _⟩ | ⟨_, h, _⟩)
        · exact h1 h
        · rw [List.getElem?_eq_none (by omega)] at h; cases h)
      simp only [e1, e2, e3]
      simp
    · have e2 : decide (((starts.length : Nat) : Int) = 0) = false := decide_eq_false (by omega)
      have hl : 0 < starts.length := by omega
      have g0 : getI starts 0 = some starts[0] := by
        have := getN_some (List.getElem?_eq_getElem hl)
        simpa using this
      simp only [e1, e2, g0, Option.bind_some, bneI, cond_false, show (false == false) = true from rfl, cond_true]
      by_cases h3 : starts[0] = 0
      · simp only [h3, decide_true, Bool.not_true, cond_false]
        rw [← Ok.eq_iff]
        refine Ok.bind_of (P := fun q => match q with | .inl _ => PermI n f starts | .inr r => ¬ PermI n f starts ∧ r = (false, ())) ?_ ?_
        · refine Ok.for starts.length (fun k _ => ∀ i, i < k → (h : i < starts.length) → starts[i] < nxI starts n i ∧ nxI starts n i ≤ n ∧ nxI starts n i ≤ starts[i] + (sz n f (nxI starts n i - 1).toNat : Int)) (i0 := 0) rfl (fun u h => by omega) (Nat.zero_le _) ?_ ?_
          · rintro k ⟨⟩ _ hk hI
            have h30 : starts[0]? = some 0 := by rw [List.getElem?_eq_getElem hl, h3]
            have hnn := PermI.nonneg (f := f) (n := n) (m := k) h30 (fun i hi h => (hI i hi h).1) k (Nat.le_refl _) hk
            have hgk := getN_some (List.getElem?_eq_getElem hk)
            have hbad : ¬ (starts[k] < nxI starts n k ∧ nxI starts n k ≤ n ∧ nxI starts n k ≤ starts[k] + (sz n f (nxI starts n k - 1).toNat : Int)) → ¬ PermI n f starts := fun h hp => by
              rcases hp with ⟨h', _⟩ | ⟨_, _, hp⟩
              · exact h1 h'
              · exact h (hp k hk)
            have hx : (if (((k + 1 : Nat) : Int) < (starts.length : Int)) then (getI starts ((k + 1 : Nat) : Int)).bind fun y7 => some (y7, ()) else some ((n : Int), ())) = some (nxI starts n k, ()) := by
              unfold nxI
              by_cases h4 : k + 1 < starts.length
              · rw [if_pos (by omega), getN_some (List.getElem?_eq_getElem h4), List.getElem?_eq_getElem h4]; rfl
              · rw [if_neg (by omega), List.getElem?_eq_none (by omega)]; rfl
            simp (disch := omega) only [cond_dec, if_pos, hgk, Option.bind_some, wrap_inc]
            rw [hx]
            simp only [Option.bind_some, cond_dec_beqF]
            generalize hxx : nxI starts n k = x at hbad
            by_cases c1 : x ≤ starts[k]
            · rw [if_pos c1]
              exact Ok.some_iff.2 ⟨hbad (fun h => by omega), rfl⟩
            · rw [if_neg c1]
              by_cases c2 : x > (n : Int)
              · rw [if_pos c2]
                exact Ok.some_iff.2 ⟨hbad (fun h => by omega), rfl⟩
              · rw [if_neg c2]
                obtain ⟨y, rfl⟩ : ∃ y : Nat, x = ((y + 1 : Nat) : Int) := ⟨(x - 1).toNat, by omega⟩
                have hsz := sz_le hf (v := y) (by omega)
                have e5 : ((y + 1 : Nat) : Int) - 1 = (y : Int) := by omega
                rw [e5, Int.toNat_natCast] at hbad
                rw [wrap_pred (by omega) (by omega), Nat.add_sub_cancel]
                simp (disch := omega) only [getI_fT, Option.bind_some]
                rw [wrap64 (by omega) (by omega)]
                by_cases c3 : starts[k] < ((y + 1 : Nat) : Int) - (sz n f y : Int)
                · rw [if_pos c3]
                  exact Ok.some_iff.2 ⟨hbad (fun h => by omega), rfl⟩
                · rw [if_neg c3]
                  refine Ok.some_iff.2 ⟨rfl, fun i hi h => ?_⟩
                  rcases Nat.lt_or_ge i k with h5 | h5
                  · exact hI i h5 h
                  · obtain rfl : i = k := by omega
                    rw [hxx, e5, Int.toNat_natCast]
                    omega
          · rintro ⟨⟩ hI
            simp (disch := omega) only [cond_dec, if_neg]
            refine Ok.some_iff.2 (.inr ⟨by omega, by rw [List.getElem?_eq_getElem hl, h3], fun k h => hI k h h⟩)
        · rintro (⟨⟩ | r) h
          · exact Ok.some_iff.2 (by rw [decT h])
          · obtain ⟨h1, rfl⟩ := h
            exact Ok.some_iff.2 (by rw [decF h1])
      · have e3 : decide (PermI n f starts) = false := decide_eq_false (by
          rintro (⟨h, _⟩ | ⟨_, h, _⟩)
          · exact h1 h
          · rw [List.getElem?_eq_getElem hl] at h
            exact h3 (by simpa using h))
        simp only [decF h3, Bool.not_false, cond_true, e3]
end
theorem last_eq (starts : List Int) (n k : Nat) (hs : starts.length < 4611686018427387904) (hk : k < starts.length) (hr : ∀ x ∈ starts, 0 ≤ x ∧ x ≤ 4611686018427387904) (hn : n ≤ 200) :
    d_sparseref21q_last (starts, (k : Int), (n : Int), ()) = some (nxI starts n k - 1, ()) := by
  unfold d_sparseref21q_last nxI
  simp (disch := omega) only [wrap_inc, cond_dec]
  by_cases h : k + 1 < starts.length
  · have := hr _ (List.getElem_mem h)
    rw [if_pos (by omega), getN_some (List.getElem?_eq_getElem h), List.getElem?_eq_getElem h]
    simp only [Option.bind_some, Option.getD_some]
    rw [wrap64 (by omega) (by omega)]
  · rw [if_neg (by omega), List.getElem?_eq_none (by omega)]
    simp only [Option.getD_none]
    rw [wrap64 (by omega) (by omega)]
/-- What permitted says, as the reference asks it. -/
theorem PermI.iff {n : Nat} {f : Nat → Int} (hf : PF n f) {starts : List Int} (h1 : n ≠ 0) (hl : 0 < starts.length) : PermI n f starts ↔ starts[0] = 0 ∧ starts.Pairwise (· < ·) ∧ starts[starts.length - 1] < (n : Int) ∧
    ∀ k, (h : k < starts.length) → nxI starts n k ≤ starts[k] + (sz n f (nxI starts n k - 1).toNat : Int) := by
  constructor
  · rintro (⟨h, _⟩ | ⟨_, h2, h3⟩)
    · exact absurd h h1
    · refine ⟨by rw [List.getElem?_eq_getElem hl] at h2; simpa using h2, ?_, ?_, fun k h => (h3 k h).2.2⟩
      · rw [pairwise_iff]
        intro k hk
        have := (h3 k (by omega)).1
        unfold nxI at this
        rw [List.getElem?_eq_getElem hk] at this
        exact this
      · have := h3 (starts.length - 1) (by omega)
        unfold nxI at this
        rw [List.getElem?_eq_none (show starts.length ≤ starts.length - 1 + 1 by omega)] at this
        exact this.1
  · rintro ⟨h2, h3, h4, h5⟩
    refine .inr ⟨by omega, by rw [List.getElem?_eq_getElem hl, h2], fun k hk => ?_⟩
    have h6 := h5 k hk
    have hmono : ∀ i j, (hi : i < starts.length) → (hj : j < starts.length) → i < j → starts[i] < starts[j] := fun i j hi hj hij => (List.pairwise_iff_getElem.1 h3) i j hi hj hij
    refine ⟨?_, ?_, h6⟩
    · unfold nxI
      by_cases h : k + 1 < starts.length
      · rw [List.getElem?_eq_getElem h]; exact hmono k (k + 1) hk h (by omega)
      · rw [List.getElem?_eq_none (by omega)]
        obtain rfl : k = starts.length - 1 := by omega
        exact h4
    · unfold nxI
      by_cases h : k + 1 < starts.length
      · rw [List.getElem?_eq_getElem h]
        simp only [Option.getD_some]
        rcases Nat.lt_or_ge (k + 1) (starts.length - 1) with h7 | h7
        · have := hmono (k + 1) (starts.length - 1) h (by omega) h7; omega
        · have e : k + 1 = starts.length - 1 := by omega
          simp only [e]; omega
      · rw [List.getElem?_eq_none (by omega)]; exact Int.le_refl _
theorem refPermitted_eq {adj : List (List Int)} (hV : Valid adj) (hn : adj.length ≤ 200) (starts : List Int) (hs : starts.length < 4611686018427387904) :
    d_sparseref21q_Permitted ((adj, ()), starts, ()) = some ((open Classical in decide (PermI adj.length (parF adj) starts)), ()) := by
  classical
  have hf := pf_parF hV hn
  unfold d_sparseref21q_Permitted
  simp only [beqI, refParent_eq hV hn, refSizes_eq hf hn, Ascending_eq _ hs]
  generalize hN : adj.length = n at hf hn
  generalize parF adj = f at hf
  by_cases h1 : n = 0
  · subst h1
    have e : decide (((starts.length : Nat) : Int) = 0) = decide (PermI 0 f starts) := by
      rw [decide_eq_decide]
      unfold PermI
      constructor
      · intro h; exact .inl ⟨rfl, List.length_eq_zero_iff.1 (by omega)⟩
      · rintro (⟨_, h⟩ | ⟨h, _⟩)
        · rw [h]; rfl
        · omega
    simp only [e]
    simp
  · have e1 : decide (((n : Nat) : Int) = 0) = false := decide_eq_false (by omega)
    by_cases h2 : starts.length = 0
    · have e2 : decide (((starts.length : Nat) : Int) = 0) = true := decide_eq_true (by omega)
      have e3 : decide (PermI n f starts) = false := decide_eq_false (by
        rintro (⟨h, _⟩ | ⟨_, h, _⟩)
        · exact h1 h
        · rw [List.getElem?_eq_none (by omega)] at h; cases h)
      simp only [e1, e2, e3]
      simp
    · have e2 : decide (((starts.length : Nat) : Int) = 0) = false := decide_eq_false (by omega)
      have hl : 0 < starts.length := by omega
      have g0 : getI starts 0 = some starts[0] := by
        have := getN_some (List.getElem?_eq_getElem hl)
        simpa using this
      have gl : getI starts (IntKind.i64.wrap ((starts.length : Int) - 1)) = some starts[starts.length - 1] := by
        rw [wrap_pred (by omega) (by omega)]
        exact getN_some (List.getElem?_eq_getElem (by omega))
      have hiff := PermI.iff hf h1 hl
      simp only [e1, e2, g0, gl, Option.bind_some, bneI, cond_false, show (false == false) = true from rfl, cond_true]
      by_cases h3 : starts[0] = 0 ∧ starts.Pairwise (· < ·) ∧ starts[starts.length - 1] < (n : Int)
      · obtain ⟨q1, q2, q3⟩ := h3
        have hr : ∀ x ∈ starts, 0 ≤ x ∧ x < (n : Int) := by
          intro x hx
          obtain ⟨i, hi, rfl⟩ := List.mem_iff_getElem.1 hx
          have hm := List.pairwise_iff_getElem.1 q2
          constructor
          · rcases Nat.eq_zero_or_pos i with h | h
            · subst h; omega
            · have := hm 0 i hl hi h; omega
          · rcases Nat.lt_or_ge i (starts.length - 1) with h | h
            · have := hm i (starts.length - 1) hi (by omega) h; omega
            · have e : i = starts.length - 1 := by omega
              subst e; exact q3
        have c3 : ¬ (starts[starts.length - 1] ≥ (n : Int)) := by omega
        simp only [q1, q2, decF c3, decide_true, Bool.not_true, cond_false, show (false == false) = true from rfl, cond_true, Option.bind_some, fT_length, refSizes_eq hf hn]
        rw [← Ok.eq_iff]
        refine Ok.bind_of (P := fun q => match q with | .inl _ => PermI n f starts | .inr r => ¬ PermI n f starts ∧ r = (false, ())) ?_ ?_
        · refine Ok.for starts.length (fun k _ => ∀ i, i < k → (h : i < starts.length) → nxI starts n i ≤ starts[i] + (sz n f (nxI starts n i - 1).toNat : Int)) (i0 := 0) rfl (fun u h => by omega) (Nat.zero_le _) ?_ ?_
          · rintro k ⟨⟩ _ hk hI
            have hgk := getN_some (List.getElem?_eq_getElem hk)
            have hx := hr _ (List.getElem_mem hk)
            have hnx : 0 < nxI starts n k ∧ nxI starts n k ≤ n := by
              unfold nxI
              by_cases h : k + 1 < starts.length
              · rw [List.getElem?_eq_getElem h]
                simp only [Option.getD_some]
                have := hr _ (List.getElem_mem h)
                have := (List.pairwise_iff_getElem.1 q2) k (k + 1) hk h (by omega)
                omega
              · rw [List.getElem?_eq_none (by omega)]
                simp only [Option.getD_none]; omega
            simp (disch := omega) only [cond_dec, if_pos, last_eq starts n k hs hk (fun x hx => by have := hr x hx; omega) hn, Option.bind_some, hgk]
            obtain ⟨y, hy⟩ : ∃ y : Nat, nxI starts n k = ((y + 1 : Nat) : Int) := ⟨(nxI starts n k - 1).toNat, by omega⟩
            have e5 : nxI starts n k - 1 = (y : Int) := by omega
            have hsz := sz_le hf (v := y) (by omega)
            simp (disch := omega) only [e5, getI_fT, Option.bind_some]
            rw [wrap64 (x := (y : Int) - (sz n f y : Int)) (by omega) (by omega), wrap64 (by omega) (by omega)]
            by_cases c : starts[k] < (y : Int) - (sz n f y : Int) + 1
            · rw [if_pos c]
              refine Ok.some_iff.2 ⟨fun hp => ?_, rfl⟩
              have := (hiff.1 hp).2.2.2 k hk
              rw [e5, Int.toNat_natCast] at this
              omega
            · rw [if_neg c]
              refine Ok.some_iff.2 ⟨wrap_inc (by omega), fun i hi h => ?_⟩
              rcases Nat.lt_or_ge i k with h5 | h5
              · exact hI i h5 h
              · obtain rfl : i = k := by omega
                rw [e5, Int.toNat_natCast]
                omega
          · rintro ⟨⟩ hI
            simp (disch := omega) only [cond_dec, if_neg]
            exact Ok.some_iff.2 (hiff.2 ⟨q1, q2, q3, fun k h => hI k h h⟩)
        · rintro (⟨⟩ | r) h
          · exact Ok.some_iff.2 (by rw [decT h])
          · obtain ⟨h1, rfl⟩ := h
            exact Ok.some_iff.2 (by rw [decF h1])
      · have e3 : decide (PermI n f starts) = false := decide_eq_false (fun hp => h3 (by
          obtain ⟨q1, q2, q3, _⟩ := hiff.1 hp
          exact ⟨q1, q2, q3⟩))
        rw [e3]
        by_cases q1 : starts[0] = 0
        · by_cases q2 : starts.Pairwise (· < ·)
          · have q3 : starts[starts.length - 1] ≥ (n : Int) := by
              by_cases h : starts[starts.length - 1] ≥ (n : Int)
              · exact h
              · exact absurd ⟨q1, q2, by omega⟩ h3
            simp only [q1, q2, decT q3, decide_true, Bool.not_true, cond_false, show (false == false) = true from rfl, cond_true, Option.bind_some]
          · simp only [q1, decF q2, decide_true, Bool.not_true, Bool.not_false, cond_false, show (false == false) = true from rfl, show (true == false) = false from rfl, cond_true, Option.bind_some]
        · simp only [decF q1, Bool.not_false, show (true == false) = false from rfl, cond_false, Option.bind_some]
end Go.Fw
end

section
namespace Go.Fw
def e_etree_Check (n_ : Nat) : ((List Int) × Unit) → Option (Int × Unit) := fun (parent_1, _) =>
  (bif (decide ((((parent_1).length : Nat) : Int) > ((200) : Int))) then (
  some (((6) : Int), ())) else (
  (loopN (σ := (Int × Unit)) (ρ := (Unit ⊕ (Int × Unit))) (fun (s_2, _) =>
  (bif (decide (s_2 < (((parent_1).length : Nat) : Int))) then (
  Option.bind (α := Unit ⊕ ((Int × Unit) ⊕ (Unit ⊕ (Int × Unit)))) (
  (getI parent_1 s_2).bind fun y3 =>
  (bif ((y3 != (-1 : Int)) == true) then ((bif ((decide (y3 ≤ s_2)) == false) then ((bif (decide (y3 ≥ (((parent_1).length : Nat) : Int))) then (
  some (.inr (.inr (.inr (((190) : Int), ()))))) else (
  some (.inl ())))) else (some (.inr (.inr (.inr (((190) : Int), ()))))))) else (some (.inl ())))) fun q => match q with
  | .inl _ => (
  some (.inl ((IntKind.i64.wrap (s_2 + ((1) : Int))), ())))
  | .inr r => some r) else (
  some (.inr (.inl ()))))) n_ (((0) : Int), ())).bind fun q => match q with
  | .inl _ => (
  some (((0) : Int), ()))
  | .inr r => some r))
theorem le_etree_Check (n_ : Nat) (a : ((List Int) × Unit)) : Le (e_etree_Check n_ a) (d_etree_Check a) := by
  unfold e_etree_Check d_etree_Check
  repeat' (first | exact Le.refl _  | (refine Le.bind ?_ (fun y => ?_)) | (refine Le.bif ?_ ?_) | (refine Le.loop (fun s => ?_) _ _) | split)
def e_etree_Sizes (n_ : Nat) : ((List Int) × Unit) → Option ((List Int) × Int × Unit) := fun (parent_1, _) =>
  (e_etree_Check n_ (parent_1, ())).bind fun (r24, _) =>
  (bif (r24 != ((0) : Int)) then (
  some ([], r24, ())) else (
  (madeO (((parent_1).length : Nat) : Int) (((parent_1).length : Nat) : Int)).bind fun n25 =>
  (loopN (σ := (Int × (List Int) × Unit)) (ρ := ((List Int) × Unit)) (fun (s_26, out_27, _) =>
  (bif (decide (s_26 < (((parent_1).length : Nat) : Int))) then (
  Option.bind (α := ((List Int) × Unit)) (
  (getI parent_1 s_26).bind fun y28 =>
  (idxN (out_27).length s_26).bind fun k29 =>
  ((atO out_27 k29 fun e30 => some e30)).bind fun y31 =>
  (idxN (out_27).length s_26).bind fun k32 =>
  ((atO out_27 k32 fun _ => some ((out_27).set k32 (IntKind.i64.wrap (y31 + ((1) : Int)))))).bind fun z34 =>
  (bif (y28 != (-1 : Int)) then (
  (idxN (z34).length y28).bind fun k35 =>
  ((atO z34 k35 fun e36 => some e36)).bind fun y37 =>
  (idxN (z34).length s_26).bind fun k38 =>
  ((atO z34 k38 fun e39 => some e39)).bind fun y40 =>
  (idxN (z34).length y28).bind fun k41 =>
  ((atO z34 k41 fun _ => some ((z34).set k41 (IntKind.i64.wrap (y37 + y40))))).bind fun z43 =>
  some (z43, ())) else (
  some (z34, ())))) fun (out_44, _) =>
  some (.inl ((IntKind.i64.wrap (s_26 + ((1) : Int))), out_44, ()))) else (
  some (.inr (out_27, ()))))) n_ (((0) : Int), (List.replicate n25 (0 : Int)), ())).bind fun (out_45, _) =>
  some (out_45, ((0) : Int), ())))
theorem le_etree_Sizes (n_ : Nat) (a : ((List Int) × Unit)) : Le (e_etree_Sizes n_ a) (d_etree_Sizes a) := by
  unfold e_etree_Sizes d_etree_Sizes
  repeat' (first | exact Le.refl _ | exact le_etree_Check _ _ | (refine Le.bind ?_ (fun y => ?_)) | (refine Le.bif ?_ ?_) | (refine Le.loop (fun s => ?_) _ _) | split)
def e_supernode_contiguous (n_ : Nat) : ((List Int) × (List Int) × Unit) → Option (Bool × Unit) := fun (parent_1, sizes_2, _) =>
  (madeO (((parent_1).length : Nat) : Int) (((parent_1).length : Nat) : Int)).bind fun n3 =>
  (loopN (σ := (Int × (List Int) × Unit)) (ρ := ((List Int) × Unit)) (fun (s_4, least_5, _) =>
  (bif (decide (s_4 < ((((List.replicate n3 (0 : Int))).length : Nat) : Int))) then (
  (idxN (least_5).length s_4).bind fun k6 =>
  ((atO least_5 k6 fun _ => some ((least_5).set k6 s_4))).bind fun z8 =>
  some (.inl ((IntKind.i64.wrap (s_4 + ((1) : Int))), z8, ()))) else (
  some (.inr (least_5, ()))))) n_ (((0) : Int), (List.replicate n3 (0 : Int)), ())).bind fun (least_9, _) =>
  (loopN (σ := (Int × (List Int) × Unit)) (ρ := ((List Int) × Unit)) (fun (s_10, least_11, _) =>
  (bif (decide (s_10 < (((parent_1).length : Nat) : Int))) then (
  Option.bind (α := ((List Int) × Unit)) (
  (getI parent_1 s_10).bind fun y12 =>
  (bif (decide (y12 ≥ ((0) : Int))) then (
  (idxN (least_11).length y12).bind fun k13 =>
  ((atO least_11 k13 fun e14 => some e14)).bind fun y15 =>
  (idxN (least_11).length s_10).bind fun k16 =>
  ((atO least_11 k16 fun e17 => some e17)).bind fun y18 =>
  (idxN (least_11).length y12).bind fun k19 =>
  ((atO least_11 k19 fun _ => some ((least_11).set k19 (if y18 < y15 then y18 else y15)))).bind fun z21 =>
  some (z21, ())) else (
  some (least_11, ())))) fun (least_22, _) =>
  some (.inl ((IntKind.i64.wrap (s_10 + ((1) : Int))), least_22, ()))) else (
  some (.inr (least_11, ()))))) n_ (((0) : Int), least_9, ())).bind fun (least_23, _) =>
  (loopN (σ := (Int × (List Int) × Unit)) (ρ := (Unit ⊕ (Bool × Unit))) (fun (s_24, least_25, _) =>
  (bif (decide (s_24 < (((parent_1).length : Nat) : Int))) then (
  (idxN (least_25).length s_24).bind fun k26 =>
  ((atO least_25 k26 fun e27 => some e27)).bind fun y28 =>
  (getI sizes_2 s_24).bind fun y29 =>
  (bif (y28 != (IntKind.i64.wrap ((IntKind.i64.wrap (s_24 - y29)) + ((1) : Int)))) then (
  some (.inr (.inr (false, ())))) else (
  some (.inl ((IntKind.i64.wrap (s_24 + ((1) : Int))), least_25, ()))))) else (
  some (.inr (.inl ()))))) n_ (((0) : Int), least_23, ())).bind fun q => match q with
  | .inl _ => (
  some (true, ()))
  | .inr r => some r
theorem le_supernode_contiguous (n_ : Nat) (a : ((List Int) × (List Int) × Unit)) : Le (e_supernode_contiguous n_ a) (d_supernode_contiguous a) := by
  unfold e_supernode_contiguous d_supernode_contiguous
  repeat' (first | exact Le.refl _  | (refine Le.bind ?_ (fun y => ?_)) | (refine Le.bif ?_ ?_) | (refine Le.loop (fun s => ?_) _ _) | split)
def e_supernode_analyse (n_ : Nat) : (((List (List Int)) × Unit) × Unit) → Option (((List Int) × ((List Int) × ((List (List Int)) × Unit))) × Int × Unit) := fun (g_1, _) =>
  (e_etree_Parent n_ (g_1, ())).bind fun (r2, r3, _) =>
  (bif (r3 != ((0) : Int)) then (
  some (([], ([], ([], ()))), r3, ())) else (
  (e_etree_Sizes n_ (r2, ())).bind fun (r4, _, _) =>
  (e_supernode_contiguous n_ (r2, r4, ())).bind fun (r6, _) =>
  (bif (!r6) then (
  some (([], ([], ([], ()))), ((210) : Int), ())) else (
  (e_symbolic_Columns n_ (g_1, ())).bind fun (r7, _, _) =>
  some ((r2, (r4, (r7, ()))), ((0) : Int), ())))))
theorem le_supernode_analyse (n_ : Nat) (a : (((List (List Int)) × Unit) × Unit)) : Le (e_supernode_analyse n_ a) (d_supernode_analyse a) := by
  unfold e_supernode_analyse d_supernode_analyse
  repeat' (first | exact Le.refl _ | exact le_symbolic_Columns _ _ | exact le_etree_Parent _ _ | exact le_etree_Sizes _ _ | exact le_supernode_contiguous _ _ | (refine Le.bind ?_ (fun y => ?_)) | (refine Le.bif ?_ ?_) | (refine Le.loop (fun s => ?_) _ _) | split)
def e_etree_Children (n_ : Nat) : ((List Int) × Unit) → Option ((List (List Int)) × (List Int) × Unit) := fun (parent_1, _) =>
  (madeO (((parent_1).length : Nat) : Int) (((parent_1).length : Nat) : Int)).bind fun n3 =>
  (loopN (σ := (Int × (List (List Int)) × (List Int) × Unit)) (ρ := ((List (List Int)) × (List Int) × Unit)) (fun (s_4, children_5, roots_6, _) =>
  (bif (decide (s_4 < (((parent_1).length : Nat) : Int))) then (
  Option.bind (α := ((List (List Int)) × (List Int) × Unit)) (
  (getI parent_1 s_4).bind fun y7 =>
  (bif (y7 == (-1 : Int)) then (
  (limO ((roots_6).length + ([s_4]).length)).bind fun _ =>
  some (children_5, (roots_6 ++ [s_4]), ())) else (
  (idxN (children_5).length y7).bind fun k8 =>
  ((atO children_5 k8 fun e10 => some e10)).bind fun xs11 =>
  (limO ((xs11).length + ([s_4]).length)).bind fun _ =>
  (idxN (children_5).length y7).bind fun k12 =>
  (bif (Nat.beq k8 k12 && true) then (
  ((atO children_5 k12 fun e13 => some e13)).bind fun xs14 =>
  ((atO children_5 k12 fun _ => some ((children_5).set k12 (xs14 ++ [s_4])))).bind fun z16 =>
  some (z16, roots_6, ())) else none)))) fun (children_17, roots_18, _) =>
  some (.inl ((IntKind.i64.wrap (s_4 + ((1) : Int))), children_17, roots_18, ()))) else (
  some (.inr (children_5, roots_6, ()))))) n_ (((0) : Int), (List.replicate n3 []), [], ())).bind fun (children_19, roots_20, _) =>
  some (children_19, roots_20, ())
theorem le_etree_Children (n_ : Nat) (a : ((List Int) × Unit)) : Le (e_etree_Children n_ a) (d_etree_Children a) := by
  unfold e_etree_Children d_etree_Children
  repeat' (first | exact Le.refl _  | (refine Le.bind ?_ (fun y => ?_)) | (refine Le.bif ?_ ?_) | (refine Le.loop (fun s => ?_) _ _) | split)
def e_supernode_Fundamental (n_ : Nat) : (((List (List Int)) × Unit) × Unit) → Option ((List Int) × Int × Unit) := fun (g_1, _) =>
  (e_supernode_analyse n_ (g_1, ())).bind fun (r22, r23, _) =>
  (bif (r23 != ((0) : Int)) then (
  some ([], r23, ())) else (
  (e_etree_Children n_ (r22.1, ())).bind fun (r24, _, _) =>
  (loopN (σ := (Int × ((List Int) × ((List Int) × ((List (List Int)) × Unit))) × (List Int) × Unit)) (ρ := ((List Int) × Unit)) (fun (s_26, a_27, out_28, _) =>
  (bif (decide (s_26 < (((r22.1).length : Nat) : Int))) then (
  Option.bind (α := (((List Int) × ((List Int) × ((List (List Int)) × Unit))) × (List Int) × Unit)) (
  Option.bind (α := (((List Int) × ((List Int) × ((List (List Int)) × Unit))) × (List Int) × Unit) ⊕ (((List Int) × ((List Int) × ((List (List Int)) × Unit))) × (List Int) × Unit)) (
  (bif ((decide (s_26 > ((0) : Int))) == true) then ((getI a_27.1 (IntKind.i64.wrap (s_26 - ((1) : Int)))).bind fun y29 =>
  (bif ((y29 == s_26) == true) then ((getI r24 s_26).bind fun y30 =>
  (bif (((((y30).length : Nat) : Int) == ((1) : Int)) == true) then ((getI a_27.2.2.1 (IntKind.i64.wrap (s_26 - ((1) : Int)))).bind fun y31 =>
  (getI a_27.2.2.1 s_26).bind fun y32 =>
  (bif ((((y31).length : Nat) : Int) == (IntKind.i64.wrap ((((y32).length : Nat) : Int) + ((1) : Int)))) then (
  some (.inr (a_27, out_28, ()))) else (
  some (.inl (a_27, out_28, ()))))) else (some (.inl (a_27, out_28, ()))))) else (some (.inl (a_27, out_28, ()))))) else (some (.inl (a_27, out_28, ()))))) fun q => match q with
  | .inl (a_33, out_34, _) => (
  (limO ((out_34).length + ([s_26]).length)).bind fun _ =>
  some (a_33, (out_34 ++ [s_26]), ()))
  | .inr r => some r) fun (a_35, out_36, _) =>
  some (.inl ((IntKind.i64.wrap (s_26 + ((1) : Int))), a_35, out_36, ()))) else (
  some (.inr (out_28, ()))))) n_ (((0) : Int), r22, [], ())).bind fun (out_37, _) =>
  some (out_37, ((0) : Int), ())))
theorem le_supernode_Fundamental (n_ : Nat) (a : (((List (List Int)) × Unit) × Unit)) : Le (e_supernode_Fundamental n_ a) (d_supernode_Fundamental a) := by
  unfold e_supernode_Fundamental d_supernode_Fundamental
  repeat' (first | exact Le.refl _ | exact le_supernode_analyse _ _ | exact le_etree_Children _ _ | (refine Le.bind ?_ (fun y => ?_)) | (refine Le.bif ?_ ?_) | (refine Le.loop (fun s => ?_) _ _) | split)
def e_supernode_analysis_permitted (n_ : Nat) : (((List Int) × ((List Int) × ((List (List Int)) × Unit))) × (List Int) × Unit) → Option (Bool × Unit) := fun (a_1, starts_2, _) =>
  Option.bind (α := Unit ⊕ (Bool × Unit)) (
  Option.bind (α := (Bool × Unit)) (
  (bif (((((a_1.1).length : Nat) : Int) == ((0) : Int)) == false) then (some (((((starts_2).length : Nat) : Int) == ((0) : Int)), ())) else (some (true, ())))) fun (s_3, _) =>
  (bif s_3 then (
  (bif (((((a_1.1).length : Nat) : Int) == ((0) : Int)) == true) then (some (.inr (((((starts_2).length : Nat) : Int) == ((0) : Int)), ()))) else (some (.inr (false, ()))))) else (
  some (.inl ())))) fun q => match q with
  | .inl _ => (
  (getI starts_2 ((0) : Int)).bind fun y4 =>
  (bif (y4 != ((0) : Int)) then (
  some (false, ())) else (
  (loopN (σ := (Int × Unit)) (ρ := (Unit ⊕ (Bool × Unit))) (fun (s_5, _) =>
  (bif (decide (s_5 < (((starts_2).length : Nat) : Int))) then (
  Option.bind (α := Unit ⊕ ((Int × Unit) ⊕ (Unit ⊕ (Bool × Unit)))) (
  (getI starts_2 s_5).bind fun y6 =>
  Option.bind (α := (Int × Unit)) (
  (bif (decide ((IntKind.i64.wrap (s_5 + ((1) : Int))) < (((starts_2).length : Nat) : Int))) then (
  (getI starts_2 (IntKind.i64.wrap (s_5 + ((1) : Int)))).bind fun y7 =>
  some (y7, ())) else (
  some ((((a_1.1).length : Nat) : Int), ())))) fun (last_8, _) =>
  (bif ((decide (last_8 ≤ y6)) == false) then ((bif ((decide (last_8 > (((a_1.1).length : Nat) : Int))) == false) then ((getI a_1.2.1 (IntKind.i64.wrap (last_8 - ((1) : Int)))).bind fun y9 =>
  (bif (decide (y6 < (IntKind.i64.wrap (last_8 - y9)))) then (
  some (.inr (.inr (.inr (false, ()))))) else (
  some (.inl ())))) else (some (.inr (.inr (.inr (false, ()))))))) else (some (.inr (.inr (.inr (false, ()))))))) fun q => match q with
  | .inl _ => (
  some (.inl ((IntKind.i64.wrap (s_5 + ((1) : Int))), ())))
  | .inr r => some r) else (
  some (.inr (.inl ()))))) n_ (((0) : Int), ())).bind fun q => match q with
  | .inl _ => (
  some (true, ()))
  | .inr r => some r)))
  | .inr r => some r
theorem le_supernode_analysis_permitted (n_ : Nat) (a : (((List Int) × ((List Int) × ((List (List Int)) × Unit))) × (List Int) × Unit)) : Le (e_supernode_analysis_permitted n_ a) (d_supernode_analysis_permitted a) := by
  unfold e_supernode_analysis_permitted d_supernode_analysis_permitted
  repeat' (first | exact Le.refl _  | (refine Le.bind ?_ (fun y => ?_)) | (refine Le.bif ?_ ?_) | (refine Le.loop (fun s => ?_) _ _) | split)
def e_supernode_analysis_rows (n_ : Nat) : (((List Int) × ((List Int) × ((List (List Int)) × Unit))) × Int × Int × Unit) → Option ((List Int) × Unit) := fun (a_1, first_2, last_3, _) =>
  (loopN (σ := (Int × (List Int) × Unit)) (ρ := ((List Int) × Unit)) (fun (j_4, out_5, _) =>
  (bif (decide (j_4 < last_3)) then (
  (limO ((out_5).length + ([j_4]).length)).bind fun _ =>
  some (.inl ((IntKind.i64.wrap (j_4 + ((1) : Int))), (out_5 ++ [j_4]), ()))) else (
  some (.inr (out_5, ()))))) n_ (first_2, [], ())).bind fun (out_6, _) =>
  (getI a_1.2.2.1 (IntKind.i64.wrap (last_3 - ((1) : Int)))).bind fun y7 =>
  ((natO ((1) : Int)).bind fun l8 => (some ((y7).length)).bind fun l9 => (leO l8 l9 (y7).length).map fun _ => (l8, l9)).bind fun q10 =>
  (limO ((out_6).length + ((((y7).take q10.2).drop q10.1)).length)).bind fun _ =>
  some ((out_6 ++ (((y7).take q10.2).drop q10.1)), ())
theorem le_supernode_analysis_rows (n_ : Nat) (a : (((List Int) × ((List Int) × ((List (List Int)) × Unit))) × Int × Int × Unit)) : Le (e_supernode_analysis_rows n_ a) (d_supernode_analysis_rows a) := by
  unfold e_supernode_analysis_rows d_supernode_analysis_rows
  repeat' (first | exact Le.refl _  | (refine Le.bind ?_ (fun y => ?_)) | (refine Le.bif ?_ ?_) | (refine Le.loop (fun s => ?_) _ _) | split)
def e_supernode_analysis_zeros (n_ : Nat) : (((List Int) × ((List Int) × ((List (List Int)) × Unit))) × Int × Int × Unit) → Option (Int × Unit) := fun (a_1, first_2, last_3, _) =>
  (e_supernode_analysis_rows n_ (a_1, first_2, last_3, ())).bind fun (r4, _) =>
  (loopN (σ := (Int × Int × Unit)) (ρ := (Int × Unit)) (fun (n_5, j_6, _) =>
  (bif (decide (j_6 < last_3)) then (
  (getI a_1.2.2.1 j_6).bind fun y7 =>
  some (.inl ((IntKind.i64.wrap (n_5 + (IntKind.i64.wrap ((IntKind.i64.wrap ((((r4).length : Nat) : Int) - (IntKind.i64.wrap (j_6 - first_2)))) - (((y7).length : Nat) : Int))))), (IntKind.i64.wrap (j_6 + ((1) : Int))), ()))) else (
  some (.inr (n_5, ()))))) n_ (((0) : Int), first_2, ())).bind fun (n_8, _) =>
  some (n_8, ())
theorem le_supernode_analysis_zeros (n_ : Nat) (a : (((List Int) × ((List Int) × ((List (List Int)) × Unit))) × Int × Int × Unit)) : Le (e_supernode_analysis_zeros n_ a) (d_supernode_analysis_zeros a) := by
  unfold e_supernode_analysis_zeros d_supernode_analysis_zeros
  repeat' (first | exact Le.refl _ | exact le_supernode_analysis_rows _ _ | (refine Le.bind ?_ (fun y => ?_)) | (refine Le.bif ?_ ?_) | (refine Le.loop (fun s => ?_) _ _) | split)
def e_supernode_Relax (n_ : Nat) : (((List (List Int)) × Unit) × (List Int) × Int × Unit) → Option ((List Int) × Int × Unit) := fun (g_1, starts_2, zeros_3, _) =>
  (e_supernode_analyse n_ (g_1, ())).bind fun (r43, r44, _) =>
  Option.bind (α := (((List Int) × ((List Int) × ((List (List Int)) × Unit))) × Unit) ⊕ ((List Int) × Int × Unit)) (
  (bif (r44 != ((0) : Int)) then (
  some (.inr ([], r44, ()))) else (
  Option.bind (α := (Bool × ((List Int) × ((List Int) × ((List (List Int)) × Unit))) × Unit)) (
  (e_supernode_analysis_permitted n_ (r43, starts_2, ())).bind fun (r45, _) =>
  (bif ((!r45) == false) then (some ((decide (zeros_3 < ((0) : Int))), r43, ())) else (some (true, r43, ())))) fun (s_46, a_47, _) =>
  (bif s_46 then (
  some (.inr ([], ((1) : Int), ()))) else (
  some (.inl (a_47, ()))))))) fun q => match q with
  | .inl (a_48, _) => (
  (loopN (σ := (Int × ((List Int) × ((List Int) × ((List (List Int)) × Unit))) × (List Int) × Unit)) (ρ := ((List Int) × Unit)) (fun (s_49, a_50, out_51, _) =>
  (bif (decide (s_49 < (((starts_2).length : Nat) : Int))) then (
  Option.bind (α := (((List Int) × ((List Int) × ((List (List Int)) × Unit))) × (List Int) × Unit)) (
  (getI starts_2 s_49).bind fun y52 =>
  Option.bind (α := (Int × ((List Int) × ((List Int) × ((List (List Int)) × Unit))) × (List Int) × Unit)) (
  (bif (decide ((IntKind.i64.wrap (s_49 + ((1) : Int))) < (((starts_2).length : Nat) : Int))) then (
  (getI starts_2 (IntKind.i64.wrap (s_49 + ((1) : Int)))).bind fun y53 =>
  some (y53, a_50, out_51, ())) else (
  some ((((a_50.1).length : Nat) : Int), a_50, out_51, ())))) fun (last_54, a_55, out_56, _) =>
  (loopN (σ := (Int × ((List Int) × ((List Int) × ((List (List Int)) × Unit))) × (List Int) × Unit)) (ρ := (Int × ((List Int) × ((List Int) × ((List (List Int)) × Unit))) × (List Int) × Unit)) (fun (first_57, a_58, out_59, _) =>
  (bif (decide ((((out_59).length : Nat) : Int) > ((0) : Int))) then (
  (getI a_58.1 (IntKind.i64.wrap (first_57 - ((1) : Int)))).bind fun y60 =>
  (idxN (out_59).length (IntKind.i64.wrap ((((out_59).length : Nat) : Int) - ((1) : Int)))).bind fun k61 =>
  ((atO out_59 k61 fun e62 => some e62)).bind fun y63 =>
  Option.bind (α := (((List Int) × ((List Int) × ((List (List Int)) × Unit))) × (List Int) × Unit) ⊕ ((Int × ((List Int) × ((List Int) × ((List (List Int)) × Unit))) × (List Int) × Unit) ⊕ (Int × ((List Int) × ((List Int) × ((List (List Int)) × Unit))) × (List Int) × Unit))) (
  (bif ((decide (y60 < first_57)) == false) then ((bif ((decide (y60 ≥ last_54)) == false) then ((e_supernode_analysis_zeros n_ (a_58, y63, last_54, ())).bind fun (r64, _) =>
  (bif (decide (r64 > zeros_3)) then (
  some (.inr (.inr (first_57, a_58, out_59, ())))) else (
  some (.inl (a_58, out_59, ()))))) else (some (.inr (.inr (first_57, a_58, out_59, ())))))) else (some (.inr (.inr (first_57, a_58, out_59, ())))))) fun q => match q with
  | .inl (a_65, out_66, _) => (
  ((some (0)).bind fun l67 => (natO (IntKind.i64.wrap ((((out_66).length : Nat) : Int) - ((1) : Int)))).bind fun l68 => (leO l67 l68 (out_66).length).bind fun _ => (posO (out_66).length).map fun _ => (l67, l68)).bind fun q69 =>
  some (.inl (y63, a_65, (((out_66).take q69.2).drop q69.1), ())))
  | .inr r => some r) else (
  some (.inr (first_57, a_58, out_59, ()))))) n_ (y52, a_55, out_56, ())).bind fun (first_70, a_71, out_72, _) =>
  (limO ((out_72).length + ([first_70]).length)).bind fun _ =>
  some (a_71, (out_72 ++ [first_70]), ())) fun (a_73, out_74, _) =>
  some (.inl ((IntKind.i64.wrap (s_49 + ((1) : Int))), a_73, out_74, ()))) else (
  some (.inr (out_51, ()))))) n_ (((0) : Int), a_48, [], ())).bind fun (out_75, _) =>
  some (out_75, ((0) : Int), ()))
  | .inr r => some r
theorem le_supernode_Relax (n_ : Nat) (a : (((List (List Int)) × Unit) × (List Int) × Int × Unit)) : Le (e_supernode_Relax n_ a) (d_supernode_Relax a) := by
  unfold e_supernode_Relax d_supernode_Relax
  repeat' (first | exact Le.refl _ | exact le_supernode_analyse _ _ | exact le_supernode_analysis_permitted _ _ | exact le_supernode_analysis_zeros _ _ | (refine Le.bind ?_ (fun y => ?_)) | (refine Le.bif ?_ ?_) | (refine Le.loop (fun s => ?_) _ _) | split)
def e_supernode_Fronts (n_ : Nat) : (((List (List Int)) × Unit) × (List Int) × Unit) → Option ((List (Int × (Int × ((List Int) × (Int × Unit))))) × Int × Unit) := fun (g_1, starts_2, _) =>
  (e_supernode_analyse n_ (g_1, ())).bind fun (r56, r57, _) =>
  (bif (r57 != ((0) : Int)) then (
  some ([], r57, ())) else (
  (e_supernode_analysis_permitted n_ (r56, starts_2, ())).bind fun (r58, _) =>
  (bif (!r58) then (
  some ([], ((1) : Int), ())) else (
  (madeO (((r56.1).length : Nat) : Int) (((r56.1).length : Nat) : Int)).bind fun n59 =>
  (loopN (σ := (Int × ((List Int) × ((List Int) × ((List (List Int)) × Unit))) × (List Int) × (List (Int × (Int × ((List Int) × (Int × Unit))))) × Unit)) (ρ := (((List Int) × ((List Int) × ((List (List Int)) × Unit))) × (List Int) × (List (Int × (Int × ((List Int) × (Int × Unit))))) × Unit)) (fun (s_60, a_61, of_62, out_63, _) =>
  (bif (decide (s_60 < (((starts_2).length : Nat) : Int))) then (
  Option.bind (α := (((List Int) × ((List Int) × ((List (List Int)) × Unit))) × (List Int) × (List (Int × (Int × ((List Int) × (Int × Unit))))) × Unit)) (
  (getI starts_2 s_60).bind fun y64 =>
  Option.bind (α := (Int × ((List Int) × ((List Int) × ((List (List Int)) × Unit))) × (List Int) × (List (Int × (Int × ((List Int) × (Int × Unit))))) × Unit)) (
  (bif (decide ((IntKind.i64.wrap (s_60 + ((1) : Int))) < (((starts_2).length : Nat) : Int))) then (
  (getI starts_2 (IntKind.i64.wrap (s_60 + ((1) : Int)))).bind fun y65 =>
  some (y65, a_61, of_62, out_63, ())) else (
  some ((((a_61.1).length : Nat) : Int), a_61, of_62, out_63, ())))) fun (last_66, a_67, of_68, out_69, _) =>
  (loopN (σ := (Int × ((List Int) × ((List Int) × ((List (List Int)) × Unit))) × (List Int) × (List (Int × (Int × ((List Int) × (Int × Unit))))) × Unit)) (ρ := (((List Int) × ((List Int) × ((List (List Int)) × Unit))) × (List Int) × (List (Int × (Int × ((List Int) × (Int × Unit))))) × Unit)) (fun (j_70, a_71, of_72, out_73, _) =>
  (bif (decide (j_70 < last_66)) then (
  (idxN (of_72).length j_70).bind fun k74 =>
  ((atO of_72 k74 fun _ => some ((of_72).set k74 s_60))).bind fun z76 =>
  some (.inl ((IntKind.i64.wrap (j_70 + ((1) : Int))), a_71, z76, out_73, ()))) else (
  some (.inr (a_71, of_72, out_73, ()))))) n_ (y64, a_67, of_68, out_69, ())).bind fun (a_77, of_78, out_79, _) =>
  (e_supernode_analysis_rows n_ (a_77, y64, last_66, ())).bind fun (r80, _) =>
  (limO ((out_79).length + ([(y64, (last_66, (r80, ((-1 : Int), ()))))]).length)).bind fun _ =>
  some (a_77, of_78, (out_79 ++ [(y64, (last_66, (r80, ((-1 : Int), ()))))]), ())) fun (a_81, of_82, out_83, _) =>
  some (.inl ((IntKind.i64.wrap (s_60 + ((1) : Int))), a_81, of_82, out_83, ()))) else (
  some (.inr (a_61, of_62, out_63, ()))))) n_ (((0) : Int), r56, (List.replicate n59 (0 : Int)), [], ())).bind fun (a_84, of_85, out_86, _) =>
  (loopN (σ := (Int × ((List Int) × ((List Int) × ((List (List Int)) × Unit))) × (List Int) × (List (Int × (Int × ((List Int) × (Int × Unit))))) × Unit)) (ρ := ((List (Int × (Int × ((List Int) × (Int × Unit))))) × Unit)) (fun (s_87, a_88, of_89, out_90, _) =>
  (bif (decide (s_87 < (((out_86).length : Nat) : Int))) then (
  Option.bind (α := (((List Int) × ((List Int) × ((List (List Int)) × Unit))) × (List Int) × (List (Int × (Int × ((List Int) × (Int × Unit))))) × Unit)) (
  (idxN (out_90).length s_87).bind fun k91 =>
  ((atO out_90 k91 fun e92 => some e92)).bind fun y93 =>
  (getI a_88.1 (IntKind.i64.wrap (y93.2.1 - ((1) : Int)))).bind fun y94 =>
  (bif (decide (y94 ≥ ((0) : Int))) then (
  (idxN (of_89).length y94).bind fun k95 =>
  ((atO of_89 k95 fun e96 => some e96)).bind fun y97 =>
  (idxN (out_90).length s_87).bind fun k98 =>
  ((atO out_90 k98 fun e99 => some ((out_90).set k98 (e99.1, (e99.2.1, (e99.2.2.1, (y97, e99.2.2.2.2))))))).bind fun z100 =>
  some (a_88, of_89, z100, ())) else (
  some (a_88, of_89, out_90, ())))) fun (a_101, of_102, out_103, _) =>
  some (.inl ((IntKind.i64.wrap (s_87 + ((1) : Int))), a_101, of_102, out_103, ()))) else (
  some (.inr (out_90, ()))))) n_ (((0) : Int), a_84, of_85, out_86, ())).bind fun (out_104, _) =>
  some (out_104, ((0) : Int), ())))))
theorem le_supernode_Fronts (n_ : Nat) (a : (((List (List Int)) × Unit) × (List Int) × Unit)) : Le (e_supernode_Fronts n_ a) (d_supernode_Fronts a) := by
  unfold e_supernode_Fronts d_supernode_Fronts
  repeat' (first | exact Le.refl _ | exact le_supernode_analyse _ _ | exact le_supernode_analysis_permitted _ _ | exact le_supernode_analysis_rows _ _ | (refine Le.bind ?_ (fun y => ?_)) | (refine Le.bif ?_ ?_) | (refine Le.loop (fun s => ?_) _ _) | split)
def e_math_bits_Mul64 (n_ : Nat) : (Int × Int × Unit) → Option (Int × Int × Unit) := fun (x_1, y_2, _) =>
  (shrO IntKind.u64 x_1 ((32) : Int)).bind fun y3 =>
  (shrO IntKind.u64 y_2 ((32) : Int)).bind fun y4 =>
  (shrO IntKind.u64 (IntKind.u64.wrap ((andI IntKind.u64 x_1 ((4294967295) : Int)) * (andI IntKind.u64 y_2 ((4294967295) : Int)))) ((32) : Int)).bind fun y5 =>
  (shrO IntKind.u64 (IntKind.u64.wrap ((IntKind.u64.wrap (y3 * (andI IntKind.u64 y_2 ((4294967295) : Int)))) + y5)) ((32) : Int)).bind fun y6 =>
  (shrO IntKind.u64 (IntKind.u64.wrap ((andI IntKind.u64 (IntKind.u64.wrap ((IntKind.u64.wrap (y3 * (andI IntKind.u64 y_2 ((4294967295) : Int)))) + y5)) ((4294967295) : Int)) + (IntKind.u64.wrap ((andI IntKind.u64 x_1 ((4294967295) : Int)) * y4)))) ((32) : Int)).bind fun y7 =>
  some ((IntKind.u64.wrap ((IntKind.u64.wrap ((IntKind.u64.wrap (y3 * y4)) + y6)) + y7)), (IntKind.u64.wrap (x_1 * y_2)), ())
theorem le_math_bits_Mul64 (n_ : Nat) (a : (Int × Int × Unit)) : Le (e_math_bits_Mul64 n_ a) (d_math_bits_Mul64 a) := by
  unfold e_math_bits_Mul64 d_math_bits_Mul64
  repeat' (first | exact Le.refl _  | (refine Le.bind ?_ (fun y => ?_)) | (refine Le.bif ?_ ?_) | (refine Le.loop (fun s => ?_) _ _) | split)
def e_math_bits_Mul (n_ : Nat) : (Int × Int × Unit) → Option (Int × Int × Unit) := fun (x_1, y_2, _) =>
  (e_math_bits_Mul64 n_ (x_1, y_2, ())).bind fun (r3, r4, _) =>
  some (r3, r4, ())
theorem le_math_bits_Mul (n_ : Nat) (a : (Int × Int × Unit)) : Le (e_math_bits_Mul n_ a) (d_math_bits_Mul a) := by
  unfold e_math_bits_Mul d_math_bits_Mul
  repeat' (first | exact Le.refl _ | exact le_math_bits_Mul64 _ _ | (refine Le.bind ?_ (fun y => ?_)) | (refine Le.bif ?_ ?_) | (refine Le.loop (fun s => ?_) _ _) | split)
def e_slices_Repeat_int_int (n_ : Nat) : ((List Int) × Int × Unit) → Option ((List Int) × Unit) := fun (x_1, count_2, _) =>
  Option.bind (α := Unit) (
  (bif (decide (count_2 < ((0) : Int))) then (
  none) else (
  some ()))) fun _ =>
  (e_math_bits_Mul n_ ((IntKind.u64.wrap (((x_1).length : Nat) : Int)), (IntKind.u64.wrap count_2), ())).bind fun (r3, r4, _) =>
  Option.bind (α := Unit) (
  Option.bind (α := (Bool × Unit)) (
  (bif ((decide (r3 > ((0) : Int))) == false) then (some ((decide (r4 > ((9223372036854775807) : Int))), ())) else (some (true, ())))) fun (s_5, _) =>
  (bif s_5 then (
  none) else (
  some ()))) fun _ =>
  (madeO (IntKind.i64.wrap r4) (IntKind.i64.wrap r4)).bind fun n6 =>
  (loopN (σ := (Int × (List Int) × Unit)) (ρ := ((List Int) × Unit)) (fun (n_7, newslice_8, _) =>
  (bif (decide (n_7 < (((newslice_8).length : Nat) : Int))) then (
  ((natO n_7).bind fun l9 => (some ((newslice_8).length)).bind fun l10 => (leO l9 l10 (newslice_8).length).bind fun _ => (posO (newslice_8).length).map fun _ => (l9, l10)).bind fun q11 =>
  ((some (0)).bind fun l12 => (natO n_7).bind fun l13 => (leO l12 l13 (newslice_8).length).bind fun _ => (posO (newslice_8).length).map fun _ => (l12, l13)).bind fun q14 =>
  some (.inl ((IntKind.i64.wrap (n_7 + ((min ((((newslice_8).take q14.2).drop q14.1)).length (q11.2 - q11.1) : Nat) : Int))), (cpL newslice_8 (((newslice_8).take q14.2).drop q14.1) q11.1 q11.2), ()))) else (
  some (.inr (newslice_8, ()))))) n_ (((min (x_1).length (((List.replicate n6 (0 : Int))).length - 0) : Nat) : Int), (cpL (List.replicate n6 (0 : Int)) x_1 0 ((List.replicate n6 (0 : Int))).length), ())).bind fun (newslice_15, _) =>
  some (newslice_15, ())
theorem le_slices_Repeat_int_int (n_ : Nat) (a : ((List Int) × Int × Unit)) : Le (e_slices_Repeat_int_int n_ a) (d_slices_Repeat_int_int a) := by
  unfold e_slices_Repeat_int_int d_slices_Repeat_int_int
  repeat' (first | exact Le.refl _ | exact le_math_bits_Mul _ _ | (refine Le.bind ?_ (fun y => ?_)) | (refine Le.bif ?_ ?_) | (refine Le.loop (fun s => ?_) _ _) | split)
def e_supernode_columns (n_ : Nat) : ((List (Int × (Int × ((List Int) × (Int × Unit))))) × Int × Unit) → Option ((List Int) × Bool × Unit) := fun (l_1, n_2, _) =>
  (loopN (σ := (Int × (List Int) × Unit)) (ρ := (((List Int) × Unit) ⊕ ((List Int) × Bool × Unit))) (fun (s_17, of_18, _) =>
  (bif (decide (s_17 < (((l_1).length : Nat) : Int))) then (
  Option.bind (α := ((List Int) × Unit) ⊕ ((Int × (List Int) × Unit) ⊕ (((List Int) × Unit) ⊕ ((List Int) × Bool × Unit)))) (
  (getI l_1 s_17).bind fun y19 =>
  Option.bind (α := ((List Int) × (Int × (Int × ((List Int) × (Int × Unit)))) × Unit) ⊕ (((List Int) × Unit) ⊕ ((Int × (List Int) × Unit) ⊕ (((List Int) × Unit) ⊕ ((List Int) × Bool × Unit))))) (
  Option.bind (α := (Bool × (List Int) × (Int × (Int × ((List Int) × (Int × Unit)))) × Unit)) (
  (bif ((y19.1 != (((of_18).length : Nat) : Int)) == false) then ((bif ((decide (y19.2.1 ≤ y19.1)) == false) then (some ((decide (y19.2.1 > n_2)), of_18, y19, ())) else (some (true, of_18, y19, ())))) else (some (true, of_18, y19, ())))) fun (s_20, of_21, f_22, _) =>
  (bif s_20 then (
  some (.inr (.inr (.inr (.inr ([], false, ())))))) else (
  some (.inl (of_21, f_22, ()))))) fun q => match q with
  | .inl (of_23, f_24, _) => (
  (e_slices_Repeat_int_int n_ ([s_17], (IntKind.i64.wrap (f_24.2.1 - f_24.1)), ())).bind fun (r25, _) =>
  (limO ((of_23).length + (r25).length)).bind fun _ =>
  some (.inl ((of_23 ++ r25), ())))
  | .inr r => some r) fun q => match q with
  | .inl (of_26, _) => (
  some (.inl ((IntKind.i64.wrap (s_17 + ((1) : Int))), of_26, ())))
  | .inr r => some r) else (
  some (.inr (.inl (of_18, ())))))) n_ (((0) : Int), [], ())).bind fun q => match q with
  | .inl (of_27, _) => (
  some (of_27, ((((of_27).length : Nat) : Int) == n_2), ()))
  | .inr r => some r
theorem le_supernode_columns (n_ : Nat) (a : ((List (Int × (Int × ((List Int) × (Int × Unit))))) × Int × Unit)) : Le (e_supernode_columns n_ a) (d_supernode_columns a) := by
  unfold e_supernode_columns d_supernode_columns
  repeat' (first | exact Le.refl _ | exact le_slices_Repeat_int_int _ _ | (refine Le.bind ?_ (fun y => ?_)) | (refine Le.bif ?_ ?_) | (refine Le.loop (fun s => ?_) _ _) | split)
def e_supernode_shaped (n_ : Nat) : ((Int × (Int × ((List Int) × (Int × Unit)))) × Int × Unit) → Option (Bool × Unit) := fun (f_1, n_2, _) =>
  (bif (decide ((((f_1.2.2.1).length : Nat) : Int) < (IntKind.i64.wrap (f_1.2.1 - f_1.1)))) then (
  some (false, ())) else (
  (loopN (σ := (Int × Unit)) (ρ := (Unit ⊕ (Bool × Unit))) (fun (s_3, _) =>
  (bif (decide (s_3 < (((f_1.2.2.1).length : Nat) : Int))) then (
  Option.bind (α := Unit ⊕ ((Int × Unit) ⊕ (Unit ⊕ (Bool × Unit)))) (
  (getI f_1.2.2.1 s_3).bind fun y4 =>
  Option.bind (α := (Bool × Unit)) (
  (bif ((decide (s_3 < (IntKind.i64.wrap (f_1.2.1 - f_1.1)))) == true) then (some ((y4 != (IntKind.i64.wrap (f_1.1 + s_3))), ())) else (some (false, ())))) fun (s_5, _) =>
  (bif s_5 then (
  (bif s_5 then (
  some (.inr (.inr (.inr (false, ()))))) else (
  some (.inl ())))) else (
  (bif ((decide (s_3 ≥ (IntKind.i64.wrap (f_1.2.1 - f_1.1)))) == true) then ((bif ((decide (y4 < f_1.2.1)) == false) then ((bif ((decide (y4 ≥ n_2)) == false) then ((getI f_1.2.2.1 (IntKind.i64.wrap (s_3 - ((1) : Int)))).bind fun y6 =>
  (bif (decide (y4 ≤ y6)) then (
  some (.inr (.inr (.inr (false, ()))))) else (
  some (.inl ())))) else (some (.inr (.inr (.inr (false, ()))))))) else (some (.inr (.inr (.inr (false, ()))))))) else (some (.inl ())))))) fun q => match q with
  | .inl _ => (
  some (.inl ((IntKind.i64.wrap (s_3 + ((1) : Int))), ())))
  | .inr r => some r) else (
  some (.inr (.inl ()))))) n_ (((0) : Int), ())).bind fun q => match q with
  | .inl _ => (
  some (true, ()))
  | .inr r => some r))
theorem le_supernode_shaped (n_ : Nat) (a : ((Int × (Int × ((List Int) × (Int × Unit)))) × Int × Unit)) : Le (e_supernode_shaped n_ a) (d_supernode_shaped a) := by
  unfold e_supernode_shaped d_supernode_shaped
  repeat' (first | exact Le.refl _  | (refine Le.bind ?_ (fun y => ?_)) | (refine Le.bif ?_ ?_) | (refine Le.loop (fun s => ?_) _ _) | split)
def e_supernode_linked (n_ : Nat) : ((List (Int × (Int × ((List Int) × (Int × Unit))))) × (List Int) × (Int × (Int × ((List Int) × (Int × Unit)))) × Unit) → Option (Bool × Unit) := fun (l_1, of_2, f_3, _) =>
  ((natO (IntKind.i64.wrap (f_3.2.1 - f_3.1))).bind fun l4 => (some ((f_3.2.2.1).length)).bind fun l5 => (leO l4 l5 (f_3.2.2.1).length).map fun _ => (l4, l5)).bind fun q6 =>
  (bif (((((((f_3.2.2.1).take q6.2).drop q6.1)).length : Nat) : Int) == ((0) : Int)) then (
  some ((f_3.2.2.2.1 == (-1 : Int)), ())) else (
  (getI (((f_3.2.2.1).take q6.2).drop q6.1) ((0) : Int)).bind fun y7 =>
  (getI of_2 y7).bind fun y8 =>
  (bif (f_3.2.2.2.1 != y8) then (
  some (false, ())) else (
  (loopN (σ := (Int × Unit)) (ρ := (Unit ⊕ (Bool × Unit))) (fun (s_9, _) =>
  (bif (decide (s_9 < ((((((f_3.2.2.1).take q6.2).drop q6.1)).length : Nat) : Int))) then (
  (getI (((f_3.2.2.1).take q6.2).drop q6.1) s_9).bind fun y10 =>
  (getI l_1 f_3.2.2.2.1).bind fun y11 =>
  (e_slices_BinarySearch_int_int n_ (y11.2.2.1, y10, ())).bind fun (_, r13, _) =>
  (bif (!r13) then (
  some (.inr (.inr (false, ())))) else (
  some (.inl ((IntKind.i64.wrap (s_9 + ((1) : Int))), ()))))) else (
  some (.inr (.inl ()))))) n_ (((0) : Int), ())).bind fun q => match q with
  | .inl _ => (
  some (true, ()))
  | .inr r => some r))))
theorem le_supernode_linked (n_ : Nat) (a : ((List (Int × (Int × ((List Int) × (Int × Unit))))) × (List Int) × (Int × (Int × ((List Int) × (Int × Unit)))) × Unit)) : Le (e_supernode_linked n_ a) (d_supernode_linked a) := by
  unfold e_supernode_linked d_supernode_linked
  repeat' (first | exact Le.refl _ | exact le_slices_BinarySearch_int_int _ _ | (refine Le.bind ?_ (fun y => ?_)) | (refine Le.bif ?_ ?_) | (refine Le.loop (fun s => ?_) _ _) | split)
def e_supernode_Check_1q_q0 (n_ : Nat) : ((Int × (Int × ((List Int) × (Int × Unit)))) × (Option Int) × Unit) → Option (Bool × Unit) := fun (f_1, p_2, _) =>
  (p_2).bind fun y3 =>
  (e_supernode_shaped n_ (f_1, y3, ())).bind fun (r4, _) =>
  some ((!r4), ())
theorem le_supernode_Check_1q_q0 (n_ : Nat) (a : ((Int × (Int × ((List Int) × (Int × Unit)))) × (Option Int) × Unit)) : Le (e_supernode_Check_1q_q0 n_ a) (d_supernode_Check_1q_q0 a) := by
  unfold e_supernode_Check_1q_q0 d_supernode_Check_1q_q0
  repeat' (first | exact Le.refl _ | exact le_supernode_shaped _ _ | (refine Le.bind ?_ (fun y => ?_)) | (refine Le.bif ?_ ?_) | (refine Le.loop (fun s => ?_) _ _) | split)
def e_slices_IndexFunc_api_Front_api_Front_q0 (n_ : Nat) : ((List (Int × (Int × ((List Int) × (Int × Unit))))) × ((Option Int) × Unit) × Unit) → Option (Int × Unit) := fun (s_1, f_2, _) =>
  (loopN (σ := (Int × Unit)) (ρ := (Unit ⊕ (Int × Unit))) (fun (s_3, _) =>
  (bif (decide (s_3 < (((s_1).length : Nat) : Int))) then (
  (getI s_1 s_3).bind fun y4 =>
  (e_supernode_Check_1q_q0 n_ (y4, f_2.1, ())).bind fun (r5, _) =>
  (bif r5 then (
  some (.inr (.inr (s_3, ())))) else (
  some (.inl ((IntKind.i64.wrap (s_3 + ((1) : Int))), ()))))) else (
  some (.inr (.inl ()))))) n_ (((0) : Int), ())).bind fun q => match q with
  | .inl _ => (
  some ((-1 : Int), ()))
  | .inr r => some r
theorem le_slices_IndexFunc_api_Front_api_Front_q0 (n_ : Nat) (a : ((List (Int × (Int × ((List Int) × (Int × Unit))))) × ((Option Int) × Unit) × Unit)) : Le (e_slices_IndexFunc_api_Front_api_Front_q0 n_ a) (d_slices_IndexFunc_api_Front_api_Front_q0 a) := by
  unfold e_slices_IndexFunc_api_Front_api_Front_q0 d_slices_IndexFunc_api_Front_api_Front_q0
  repeat' (first | exact Le.refl _ | exact le_supernode_Check_1q_q0 _ _ | (refine Le.bind ?_ (fun y => ?_)) | (refine Le.bif ?_ ?_) | (refine Le.loop (fun s => ?_) _ _) | split)
def e_slices_ContainsFunc_api_Front_api_Front_q0 (n_ : Nat) : ((List (Int × (Int × ((List Int) × (Int × Unit))))) × ((Option Int) × Unit) × Unit) → Option (Bool × Unit) := fun (s_1, f_2, _) =>
  (e_slices_IndexFunc_api_Front_api_Front_q0 n_ (s_1, (f_2.1, ()), ())).bind fun (r3, _) =>
  some ((decide (r3 ≥ ((0) : Int))), ())
theorem le_slices_ContainsFunc_api_Front_api_Front_q0 (n_ : Nat) (a : ((List (Int × (Int × ((List Int) × (Int × Unit))))) × ((Option Int) × Unit) × Unit)) : Le (e_slices_ContainsFunc_api_Front_api_Front_q0 n_ a) (d_slices_ContainsFunc_api_Front_api_Front_q0 a) := by
  unfold e_slices_ContainsFunc_api_Front_api_Front_q0 d_slices_ContainsFunc_api_Front_api_Front_q0
  repeat' (first | exact Le.refl _ | exact le_slices_IndexFunc_api_Front_api_Front_q0 _ _ | (refine Le.bind ?_ (fun y => ?_)) | (refine Le.bif ?_ ?_) | (refine Le.loop (fun s => ?_) _ _) | split)
def e_supernode_Check_2q_q0 (n_ : Nat) : ((Int × (Int × ((List Int) × (Int × Unit)))) × (Option (List (Int × (Int × ((List Int) × (Int × Unit)))))) × (Option (List Int)) × Unit) → Option (Bool × Unit) := fun (f_1, p_2, p_3, _) =>
  (p_2).bind fun y4 =>
  (p_3).bind fun y5 =>
  (e_supernode_linked n_ (y4, y5, f_1, ())).bind fun (r6, _) =>
  some ((!r6), ())
theorem le_supernode_Check_2q_q0 (n_ : Nat) (a : ((Int × (Int × ((List Int) × (Int × Unit)))) × (Option (List (Int × (Int × ((List Int) × (Int × Unit)))))) × (Option (List Int)) × Unit)) : Le (e_supernode_Check_2q_q0 n_ a) (d_supernode_Check_2q_q0 a) := by
  unfold e_supernode_Check_2q_q0 d_supernode_Check_2q_q0
  repeat' (first | exact Le.refl _ | exact le_supernode_linked _ _ | (refine Le.bind ?_ (fun y => ?_)) | (refine Le.bif ?_ ?_) | (refine Le.loop (fun s => ?_) _ _) | split)
def e_slices_IndexFunc_api_Front_api_Front_q1 (n_ : Nat) : ((List (Int × (Int × ((List Int) × (Int × Unit))))) × ((Option (List (Int × (Int × ((List Int) × (Int × Unit)))))) × (Option (List Int)) × Unit) × Unit) → Option (Int × Unit) := fun (s_1, f_2, _) =>
  (loopN (σ := (Int × Unit)) (ρ := (Unit ⊕ (Int × Unit))) (fun (s_3, _) =>
  (bif (decide (s_3 < (((s_1).length : Nat) : Int))) then (
  (getI s_1 s_3).bind fun y4 =>
  (e_supernode_Check_2q_q0 n_ (y4, f_2.1, f_2.2.1, ())).bind fun (r5, _) =>
  (bif r5 then (
  some (.inr (.inr (s_3, ())))) else (
  some (.inl ((IntKind.i64.wrap (s_3 + ((1) : Int))), ()))))) else (
  some (.inr (.inl ()))))) n_ (((0) : Int), ())).bind fun q => match q with
  | .inl _ => (
  some ((-1 : Int), ()))
  | .inr r => some r
theorem le_slices_IndexFunc_api_Front_api_Front_q1 (n_ : Nat) (a : ((List (Int × (Int × ((List Int) × (Int × Unit))))) × ((Option (List (Int × (Int × ((List Int) × (Int × Unit)))))) × (Option (List Int)) × Unit) × Unit)) : Le (e_slices_IndexFunc_api_Front_api_Front_q1 n_ a) (d_slices_IndexFunc_api_Front_api_Front_q1 a) := by
  unfold e_slices_IndexFunc_api_Front_api_Front_q1 d_slices_IndexFunc_api_Front_api_Front_q1
  repeat' (first | exact Le.refl _ | exact le_supernode_Check_2q_q0 _ _ | (refine Le.bind ?_ (fun y => ?_)) | (refine Le.bif ?_ ?_) | (refine Le.loop (fun s => ?_) _ _) | split)
def e_slices_ContainsFunc_api_Front_api_Front_q1 (n_ : Nat) : ((List (Int × (Int × ((List Int) × (Int × Unit))))) × ((Option (List (Int × (Int × ((List Int) × (Int × Unit)))))) × (Option (List Int)) × Unit) × Unit) → Option (Bool × Unit) := fun (s_1, f_2, _) =>
  (e_slices_IndexFunc_api_Front_api_Front_q1 n_ (s_1, (f_2.1, f_2.2.1, ()), ())).bind fun (r3, _) =>
  some ((decide (r3 ≥ ((0) : Int))), ())
theorem le_slices_ContainsFunc_api_Front_api_Front_q1 (n_ : Nat) (a : ((List (Int × (Int × ((List Int) × (Int × Unit))))) × ((Option (List (Int × (Int × ((List Int) × (Int × Unit)))))) × (Option (List Int)) × Unit) × Unit)) : Le (e_slices_ContainsFunc_api_Front_api_Front_q1 n_ a) (d_slices_ContainsFunc_api_Front_api_Front_q1 a) := by
  unfold e_slices_ContainsFunc_api_Front_api_Front_q1 d_slices_ContainsFunc_api_Front_api_Front_q1
  repeat' (first | exact Le.refl _ | exact le_slices_IndexFunc_api_Front_api_Front_q1 _ _ | (refine Le.bind ?_ (fun y => ?_)) | (refine Le.bif ?_ ?_) | (refine Le.loop (fun s => ?_) _ _) | split)
def e_supernode_Check (n_ : Nat) : (((List (List Int)) × Unit) × (List (Int × (Int × ((List Int) × (Int × Unit))))) × Unit) → Option (Int × Unit) := fun (g_1, l_2, _) =>
  (e_graph_Check n_ (g_1, ())).bind fun (r3, _) =>
  (bif (r3 != ((0) : Int)) then (
  some (r3, ())) else (
  (e_supernode_columns n_ (l_2, (((g_1.1).length : Nat) : Int), ())).bind fun (r4, r5, _) =>
  Option.bind (α := ((List Int) × Unit) ⊕ (Int × Unit)) (
  (bif ((!r5) == false) then ((e_slices_ContainsFunc_api_Front_api_Front_q0 n_ (l_2, ((some (((g_1.1).length : Nat) : Int)), ()), ())).bind fun (r6, _) =>
  (bif r6 then (
  some (.inr (((211) : Int), ()))) else (
  some (.inl (r4, ()))))) else (some (.inr (((211) : Int), ()))))) fun q => match q with
  | .inl (of_7, _) => (
  (e_slices_ContainsFunc_api_Front_api_Front_q1 n_ (l_2, ((some l_2), (some of_7), ()), ())).bind fun (r8, _) =>
  (bif r8 then (
  some (((211) : Int), ())) else (
  (loopN (σ := (Int × (List Int) × Unit)) (ρ := (Unit ⊕ (Int × Unit))) (fun (s_9, of_10, _) =>
  (bif (decide (s_9 < (((g_1.1).length : Nat) : Int))) then (
  (getI g_1.1 s_9).bind fun y11 =>
  (loopN (σ := (Int × (List Int) × Unit)) (ρ := (((List Int) × Unit) ⊕ ((Int × (List Int) × Unit) ⊕ (Unit ⊕ (Int × Unit))))) (fun (s_12, of_13, _) =>
  (bif (decide (s_12 < (((y11).length : Nat) : Int))) then (
  Option.bind (α := ((List Int) × Unit) ⊕ ((Int × (List Int) × Unit) ⊕ (((List Int) × Unit) ⊕ ((Int × (List Int) × Unit) ⊕ (Unit ⊕ (Int × Unit)))))) (
  (getI y11 s_12).bind fun y14 =>
  (bif (decide (y14 > s_9)) then (
  some (.inl (of_13, ()))) else (
  (getI of_13 y14).bind fun y15 =>
  (getI l_2 y15).bind fun y16 =>
  (e_slices_BinarySearch_int_int n_ (y16.2.2.1, s_9, ())).bind fun (_, r18, _) =>
  (bif (!r18) then (
  some (.inr (.inr (.inr (.inr (.inr (((211) : Int), ()))))))) else (
  some (.inl (of_13, ()))))))) fun q => match q with
  | .inl (of_19, _) => (
  some (.inl ((IntKind.i64.wrap (s_12 + ((1) : Int))), of_19, ())))
  | .inr r => some r) else (
  some (.inr (.inl (of_13, ())))))) n_ (((0) : Int), of_10, ())).bind fun q => match q with
  | .inl (of_20, _) => (
  some (.inl ((IntKind.i64.wrap (s_9 + ((1) : Int))), of_20, ())))
  | .inr r => some r) else (
  some (.inr (.inl ()))))) n_ (((0) : Int), of_7, ())).bind fun q => match q with
  | .inl _ => (
  some (((0) : Int), ()))
  | .inr r => some r)))
  | .inr r => some r))
theorem le_supernode_Check (n_ : Nat) (a : (((List (List Int)) × Unit) × (List (Int × (Int × ((List Int) × (Int × Unit))))) × Unit)) : Le (e_supernode_Check n_ a) (d_supernode_Check a) := by
  unfold e_supernode_Check d_supernode_Check
  repeat' (first | exact Le.refl _ | exact le_slices_ContainsFunc_api_Front_api_Front_q0 _ _ | exact le_slices_ContainsFunc_api_Front_api_Front_q1 _ _ | exact le_graph_Check _ _ | exact le_supernode_columns _ _ | exact le_slices_BinarySearch_int_int _ _ | (refine Le.bind ?_ (fun y => ?_)) | (refine Le.bif ?_ ?_) | (refine Le.loop (fun s => ?_) _ _) | split)
def e_sparselaw21q_awake (n_ : Nat) : Unit → Option (Bool × Unit) := fun _ =>
  (e_supernode_Fundamental n_ (([[((1) : Int)], [((0) : Int), ((2) : Int)], [((1) : Int)]], ()), ())).bind fun (r1, r2, _) =>
  (e_supernode_Relax n_ (([[((1) : Int)], [((0) : Int), ((2) : Int)], [((1) : Int)]], ()), r1, ((1) : Int), ())).bind fun (r3, r4, _) =>
  (e_supernode_Fronts n_ (([[((1) : Int)], [((0) : Int), ((2) : Int)], [((1) : Int)]], ()), r1, ())).bind fun (r5, r6, _) =>
  (bif ((r2 == ((0) : Int)) == true) then ((bif ((r4 == ((0) : Int)) == true) then ((bif ((r6 == ((0) : Int)) == true) then ((e_sparsekit_Ints n_ (r1, [((0) : Int), ((1) : Int)], ())).bind fun (r7, _) =>
  (bif (r7 == true) then ((e_sparsekit_Ints n_ (r3, [((0) : Int)], ())).bind fun (r8, _) =>
  (bif (r8 == true) then ((bif (((((r5).length : Nat) : Int) == ((2) : Int)) == true) then ((getI r5 ((0) : Int)).bind fun y9 =>
  (bif ((y9.2.2.2.1 == ((1) : Int)) == true) then ((e_supernode_Check n_ (([[((1) : Int)], [((0) : Int), ((2) : Int)], [((1) : Int)]], ()), r5, ())).bind fun (r10, _) =>
  some ((r10 == ((0) : Int)), ())) else (some (false, ())))) else (some (false, ())))) else (some (false, ())))) else (some (false, ())))) else (some (false, ())))) else (some (false, ())))) else (some (false, ())))
theorem le_sparselaw21q_awake (n_ : Nat) (a : Unit) : Le (e_sparselaw21q_awake n_ a) (d_sparselaw21q_awake a) := by
  unfold e_sparselaw21q_awake d_sparselaw21q_awake
  repeat' (first | exact Le.refl _ | exact le_supernode_Fundamental _ _ | exact le_supernode_Relax _ _ | exact le_supernode_Fronts _ _ | exact le_sparsekit_Ints _ _ | exact le_supernode_Check _ _ | (refine Le.bind ?_ (fun y => ?_)) | (refine Le.bif ?_ ?_) | (refine Le.loop (fun s => ?_) _ _) | split)
end Go.Fw
end

section
set_option linter.unusedSimpArgs false
set_option linter.unusedVariables false
namespace Go.Fw
theorem awake21 : d_sparselaw21q_awake () = some (true, ()) := le_sparselaw21q_awake 20 () _ (by decide +kernel)
/-- The rows of the front of the columns a to b - 1. -/
noncomputable def rowsV (adj : List (List Int)) (a b : Nat) : List Int := fT (b - 1 - a) (fun i => ((a + i : Nat) : Int)) ++ colV adj (b - 1)
theorem colV_length (adj : List (List Int)) (j : Nat) : (colV adj j).length ≤ adj.length := colK_length adj j adj.length
section
variable {adj : List (List Int)} (hV : Valid adj) (hn : adj.length ≤ 200)
include hV hn
theorem refRows_eq {a b : Nat} (hab : a < b) (hb : b ≤ adj.length) : d_sparseref21q_rows (fT adj.length (colV adj), (a : Int), ((b - 1 : Nat) : Int), ()) = some (rowsV adj a b, ()) := by
  unfold d_sparseref21q_rows
  have hcl := colV_length adj (b - 1)
  refine bind_eq (loop_for (r := (fT (b - 1 - a) (fun i => ((a + i : Nat) : Int)), ())) (b - 1) (fun j => (fT (j - a) (fun i => ((a + i : Nat) : Int)), ())) a rfl (by rw [Nat.sub_self]; rfl) (by omega) ?_ ?_) ?_
  · intro j h1 h2
    have e : j + 1 - a = (j - a) + 1 := by omega
    have e2 : a + (j - a) = j := by omega
    simp (disch := omega) only [cond_dec, if_pos, fT_length, List.length_singleton, limO_ok, Option.bind_some, wrap_inc, e, fT_succ, e2]
  · simp (disch := omega) only [cond_dec, if_neg]
  · simp (disch := omega) only [getI_fT, Option.bind_some, fT_length, limO_ok]
    rfl
theorem rows_eq (x y : List Int) {a b : Nat} (hab : a < b) (hb : b ≤ adj.length) : d_supernode_analysis_rows ((x, (y, (fT adj.length (colV adj), ()))), (a : Int), (b : Int), ()) = some (rowsV adj a b, ()) := by
  unfold d_supernode_analysis_rows
  have hcl := colV_length adj (b - 1)
  obtain ⟨r, hr, _⟩ := colV_cons hV (show b - 1 < adj.length by omega)
  have hrl : r.length < 200 := by rw [hr] at hcl; simp at hcl; omega
  refine bind_eq (loop_for (r := (fT (b - a) (fun i => ((a + i : Nat) : Int)), ())) b (fun j => (fT (j - a) (fun i => ((a + i : Nat) : Int)), ())) a rfl (by rw [Nat.sub_self]; rfl) (by omega) ?_ ?_) ?_
  · intro j h1 h2
    have e : j + 1 - a = (j - a) + 1 := by omega
    have e2 : a + (j - a) = j := by omega
    simp (disch := omega) only [cond_dec, if_pos, fT_length, List.length_singleton, limO_ok, Option.bind_some, wrap_inc, e, fT_succ, e2]
  · simp (disch := omega) only [cond_dec, if_neg]
  · have n1 : natO (1 : Int) = some 1 := natO_ok (i := 1)
    simp (disch := omega) only [wrap_pred, getI_fT, Option.bind_some, fT_length, n1, hr, List.length_cons, leO_ok, Option.map_some]
    have e3 : ((((b - 1 : Nat) : Int) :: r).take (r.length + 1)).drop 1 = r := by simp
    rw [e3, limO_ok (by omega)]
    simp only [Option.bind_some, rowsV, hr]
    congr 2
    have e : b - a = (b - 1 - a) + 1 := by omega
    have e2 : a + (b - 1 - a) = b - 1 := by omega
    rw [e, fT_succ, e2, List.append_assoc]; rfl
theorem rowsV_length {a b : Nat} (hab : a < b) : (rowsV adj a b).length = b - 1 - a + (colV adj (b - 1)).length := by
  unfold rowsV
  rw [List.length_append, fT_length]
omit hn in
theorem mem_rowsV {a b : Nat} (hab : a < b) (hb : b ≤ adj.length) {x : Nat} : (x : Int) ∈ rowsV adj a b ↔ (a ≤ x ∧ x < b) ∨ (b ≤ x ∧ (x : Int) ∈ colV adj (b - 1)) := by
  unfold rowsV
  rw [List.mem_append, mem_fT]
  constructor
  · rintro (⟨i, h1, h2⟩ | h)
    · left; omega
    · have h2 := (mem_colV.1 h).2.le
      rcases Nat.lt_or_ge x b with h3 | h3
      · left; omega
      · exact .inr ⟨h3, h⟩
  · rintro (⟨h1, h2⟩ | ⟨_, h⟩)
    · rcases Nat.lt_or_ge x (b - 1) with h3 | h3
      · exact .inl ⟨x - a, by omega, by omega⟩
      · right
        obtain rfl : x = b - 1 := by omega
        exact mem_colV.2 ⟨by omega, .inl rfl⟩
    · exact .inr h
omit hn in
theorem rowsV_asc {a b : Nat} (hab : a < b) (hb : b ≤ adj.length) : (rowsV adj a b).Pairwise (· < ·) := by
  unfold rowsV
  rw [List.pairwise_append]
  refine ⟨?_, colV_asc _ _, ?_⟩
  · rw [List.pairwise_iff_getElem]
    intro i j hi hj hij
    rw [fT_getElem, fT_getElem]; omega
  · intro x hx y hy
    obtain ⟨i, hi, rfl⟩ := mem_fT.1 hx
    obtain ⟨r, h1, h2, _⟩ := colV_cons hV (show b - 1 < adj.length by omega)
    rw [h1] at hy
    rcases List.mem_cons.1 hy with rfl | hy
    · omega
    · obtain ⟨z, rfl, h3, _⟩ := h2 y hy; omega
/-- An element of a column beyond an ancestor lies in the ancestor's column. -/
theorem col_anc {u v : Nat} (h : Anc (Nb adj) u v) {x : Nat} (hv : v < adj.length) (hvx : v ≤ x) (hx : (x : Int) ∈ colV adj u) : (x : Int) ∈ colV adj v := by
  induction h with
  | refl => exact hx
  | @up u p v h1 h2 ih =>
    have hpl := h2.le
    have hup := h1.1
    exact ih hv hvx (col_next hV h1 (by omega) ⟨hx, by omega⟩)
/-- In a front that lies in a subtree, the columns lie in the rows. -/
theorem col_sub_rows {a b : Nat} (hab : a < b) (hb : b ≤ adj.length) (hs : ∀ k, a ≤ k → k < b → Sub adj.length (parF adj) k (b - 1)) {k x : Nat} (hk : a ≤ k) (hkb : k < b) (hx : (x : Int) ∈ colV adj k) : (x : Int) ∈ rowsV adj a b := by
  have hkx := (mem_colV.1 hx).2.le
  rw [mem_rowsV hV hab hb]
  rcases Nat.lt_or_ge x b with h | h
  · exact .inl ⟨by omega, h⟩
  · exact .inr ⟨h, col_anc hV hn ((sub_anc hV hn).1 (hs k hk hkb)) (by omega) (by omega) hx⟩
/-- The zeros of a front. -/
noncomputable def zK (adj : List (List Int)) (a b : Nat) : Nat → Nat
  | 0 => 0
  | k + 1 => zK adj a b k + ((rowsV adj a b).length - k - (colV adj (a + k)).length)
noncomputable def zV (adj : List (List Int)) (a b : Nat) : Nat := zK adj a b (b - a)
omit hV in
theorem zK_le {a b : Nat} (hab : a < b) (hb : b ≤ adj.length) (k : Nat) : zK adj a b k ≤ k * 400 := by
  induction k with
  | zero => exact Nat.le_refl _
  | succ k ih =>
    have h1 := colV_length adj (b - 1)
    have : (rowsV adj a b).length ≤ 400 := by
      unfold rowsV
      rw [List.length_append, fT_length]; omega
    simp only [zK]
    omega
omit hn in
theorem rowsV_ge {a b : Nat} (hab : a < b) (hb : b ≤ adj.length) : ∀ x ∈ rowsV adj a b, (a : Int) ≤ x := by
  intro x hx
  rcases List.mem_append.1 hx with h | h
  · obtain ⟨i, _, rfl⟩ := mem_fT.1 h; omega
  · obtain ⟨r, h1, h2, _⟩ := colV_cons hV (show b - 1 < adj.length by omega)
    rw [h1] at h
    rcases List.mem_cons.1 h with rfl | h
    · omega
    · obtain ⟨z, rfl, h3, _⟩ := h2 x h; omega
theorem filter_len_sub {l c : List Int} (hl : l.Pairwise (· < ·)) (hc : c.Pairwise (· < ·)) (hs : ∀ x ∈ c, x ∈ l) : (l.filter fun x => !decide (x ∈ c)).length = l.length - c.length := by
  have h1 : (l.filter fun x => decide (x ∈ c)) = c := by
    refine sorted_ext (hl.filter _) hc (fun x => ?_)
    simp only [List.mem_filter, decide_eq_true_eq]
    exact ⟨fun h => h.2, fun h => ⟨hs x h, h⟩⟩
  have h2 : ∀ (p : Int → Bool) (l : List Int), (l.filter p).length + (l.filter fun x => !p x).length = l.length := by
    intro p l
    induction l with
    | nil => rfl
    | cons x l ih => cases h : p x <;> simp [List.filter_cons, h] <;> omega
  have := h2 (fun x => decide (x ∈ c)) l
  rw [h1] at this
  omega
/-- The rows from column k on: all but the first ones. -/
theorem rows_from {a b k : Nat} (hab : a < b) (hb : b ≤ adj.length) (hk : a + k < b) : (rowsV adj a b).drop k = rowsV adj (a + k) b := by
  unfold rowsV
  rw [List.drop_append_of_le_length (by rw [fT_length]; omega), fT_drop]
  congr 1
  have e : b - 1 - a - k = b - 1 - (a + k) := by omega
  rw [e]
  exact fT_congr fun i _ => by congr 1; omega
theorem zeros_eq (x y : List Int) {a b : Nat} (hab : a < b) (hb : b ≤ adj.length) (hs : ∀ k, a ≤ k → k < b → Sub adj.length (parF adj) k (b - 1)) :
    d_supernode_analysis_zeros ((x, (y, (fT adj.length (colV adj), ()))), (a : Int), (b : Int), ()) = some ((zV adj a b : Int), ()) := by
  unfold d_supernode_analysis_zeros
  have hrl := rowsV_length hV hn hab
  have hcb := colV_length adj (b - 1)
  simp only [rows_eq hV hn x y hab hb, Option.bind_some]
  rw [← Ok.eq_iff]
  refine Ok.bind_of (P := fun q => q.1 = (zV adj a b : Int)) ?_ ?_
  · refine Ok.count (fun s => s.2.1) b (fun j s => s.1 = (zK adj a b (j - a) : Int)) (i0 := a) rfl ?_ (by omega) ?_ ?_
    · rw [Nat.sub_self]; rfl
    · rintro j ⟨z, i, ⟨⟩⟩ h1 h2 e hz
      simp only at e hz
      subst e hz
      have hz := zK_le hn hab hb (j - a)
      have hcj := colV_length adj j
      have hle : (colV adj j).length ≤ (rowsV adj a b).length - (j - a) := by
        have := rows_from hV hn (k := j - a) hab hb (by omega)
        have e2 : a + (j - a) = j := by omega
        rw [e2] at this
        have h3 : (rowsV adj j b).length = (rowsV adj a b).length - (j - a) := by rw [← this, List.length_drop]
        rw [← h3]
        have hsub : ∀ x ∈ colV adj j, x ∈ rowsV adj j b := fun x hx => by
          obtain ⟨r, q1, q2, _⟩ := colV_cons hV (show j < adj.length by omega)
          have : ∃ w : Nat, x = (w : Int) := by
            rw [q1] at hx
            rcases List.mem_cons.1 hx with rfl | hx
            · exact ⟨j, rfl⟩
            · obtain ⟨w, rfl, _⟩ := q2 x hx; exact ⟨w, rfl⟩
          obtain ⟨w, rfl⟩ := this
          exact col_sub_rows hV hn h2 hb (fun k hk hkb => hs k (by omega) hkb) (Nat.le_refl j) h2 hx
        have := filter_len_sub hV hn (rowsV_asc hV h2 hb) (colV_asc adj j) hsub
        have h5 : ((rowsV adj j b).filter fun x => decide (x ∈ colV adj j)) = colV adj j := by
          refine sorted_ext ((rowsV_asc hV h2 hb).filter _) (colV_asc adj j) (fun x => ?_)
          simp only [List.mem_filter, decide_eq_true_eq]
          exact ⟨fun h => h.2, fun h => ⟨hsub x h, h⟩⟩
        rw [← h5]
        exact List.length_filter_le _ _
      have e3 : j + 1 - a = (j - a) + 1 := by omega
      have e2 : a + (j - a) = j := by omega
      simp (disch := omega) only [cond_dec, if_pos, getI_fT, Option.bind_some, wrap_sub, wrap_inc]
      refine Ok.some_iff.2 ⟨rfl, ?_⟩
      rw [e3]
      simp only [zK, e2]
      have hmul : (j - a) * 400 ≤ 200 * 400 := Nat.mul_le_mul_right _ (by omega)
      rw [wrap64 (by omega) (by omega)]
      omega
    · rintro ⟨z, i, ⟨⟩⟩ e hz
      simp only at e hz
      subst e hz
      simp (disch := omega) only [cond_dec, if_neg]
      exact Ok.some_iff.2 rfl
  · rintro ⟨z, ⟨⟩⟩ h
    simp only at h
    subst h
    exact Ok.some_iff.2 rfl
theorem refZeros_eq {a b : Nat} (hab : a < b) (hb : b ≤ adj.length) (hs : ∀ k, a ≤ k → k < b → Sub adj.length (parF adj) k (b - 1)) :
    d_sparseref21q_Zeros (fT adj.length (colV adj), (a : Int), ((b - 1 : Nat) : Int), ()) = some ((zV adj a b : Int), ()) := by
  unfold d_sparseref21q_Zeros
  have hrl := rowsV_length hV hn hab
  have hcb := colV_length adj (b - 1)
  simp only [refRows_eq hV hn hab hb, Option.bind_some]
  rw [← Ok.eq_iff]
  refine Ok.bind_of (P := fun q => q.1 = (zV adj a b : Int)) ?_ ?_
  · refine Ok.count (fun s => s.2.1) b (fun j s => s.1 = (zK adj a b (j - a) : Int)) (i0 := a) rfl ?_ (by omega) ?_ ?_
    · rw [Nat.sub_self]; rfl
    · rintro j ⟨z, i, ⟨⟩⟩ h1 h2 e hz
      simp only at e hz
      subst e hz
      have hz := zK_le hn hab hb (j - a)
      have hmul : (j - a) * 400 ≤ 200 * 400 := Nat.mul_le_mul_right _ (by omega)
      have hcj := colV_length adj j
      have e3 : j + 1 - a = (j - a) + 1 := by omega
      have e2 : a + (j - a) = j := by omega
      simp (disch := omega) only [cond_dec, if_pos]
      refine Ok.bind_of (P := fun q => q.1 = (zK adj a b (j + 1 - a) : Int)) ?_ (by rintro ⟨q, ⟨⟩⟩ hq; exact Ok.some_iff.2 ⟨wrap_inc (by omega), hq⟩)
      -- those that are no rows of column j
      have hdrop : (rowsV adj a b).drop (j - a) = rowsV adj j b := by
        have := rows_from hV hn (k := j - a) hab hb (by omega)
        rw [e2] at this; exact this
      have hsub : ∀ x ∈ colV adj j, x ∈ rowsV adj j b := fun x hx => by
        obtain ⟨r, q1, q2, _⟩ := colV_cons hV (show j < adj.length by omega)
        have : ∃ w : Nat, x = (w : Int) := by
          rw [q1] at hx
          rcases List.mem_cons.1 hx with rfl | hx
          · exact ⟨j, rfl⟩
          · obtain ⟨w, rfl, _⟩ := q2 x hx; exact ⟨w, rfl⟩
        obtain ⟨w, rfl⟩ := this
        exact col_sub_rows hV hn h2 hb (fun k hk hkb => hs k (by omega) hkb) (Nat.le_refl j) h2 hx
      have hcount : ((rowsV adj a b).filter fun x => decide ((j : Int) ≤ x) && !decide (x ∈ colV adj j)).length = (rowsV adj a b).length - (j - a) - (colV adj j).length := by
        have h4 := filter_len_sub hV hn (rowsV_asc hV h2 hb) (colV_asc adj j) hsub
        have h5 : ((rowsV adj a b).filter fun x => decide ((j : Int) ≤ x) && !decide (x ∈ colV adj j)) = ((rowsV adj j b).filter fun x => !decide (x ∈ colV adj j)) := by
          conv => lhs; rw [← List.take_append_drop (j - a) (rowsV adj a b)]
          rw [List.filter_append, hdrop]
          have h6 : ((rowsV adj a b).take (j - a)).filter (fun x => decide ((j : Int) ≤ x) && !decide (x ∈ colV adj j)) = [] := by
            rw [List.filter_eq_nil_iff]
            intro x hx
            obtain ⟨i, hi, rfl⟩ := List.mem_iff_getElem.1 hx
            simp only [List.length_take] at hi
            have : (rowsV adj a b)[i]'(by omega) = ((a + i : Nat) : Int) := by
              unfold rowsV
              rw [List.getElem_append_left (by rw [fT_length]; omega), fT_getElem]
            simp only [List.getElem_take, this, Bool.and_eq_true, decide_eq_true_eq]
            intro h; omega
          rw [h6, List.nil_append]
          refine List.filter_congr fun x hx => ?_
          have := rowsV_ge hV h2 hb x hx
          simp [this]
        rw [h5, h4, ← hdrop, List.length_drop]
      have hzs : zK adj a b (j + 1 - a) = zK adj a b (j - a) + ((rowsV adj a b).filter fun x => decide ((j : Int) ≤ x) && !decide (x ∈ colV adj j)).length := by
        rw [hcount, e3]; simp only [zK, e2]
      rw [hzs]
      generalize rowsV adj a b = R at hrl
      have hfl : ∀ i, ((R.take i).filter fun x => decide ((j : Int) ≤ x) && !decide (x ∈ colV adj j)).length ≤ 400 := fun i => by
        refine Nat.le_trans (List.length_filter_le _ _) ?_
        rw [List.length_take]; omega
      refine Ok.count (fun s => s.2.1) R.length (fun i s => s.1 = ((zK adj a b (j - a) + ((R.take i).filter fun x => decide ((j : Int) ≤ x) && !decide (x ∈ colV adj j)).length : Nat) : Int)) (i0 := 0) rfl (by simp) (Nat.zero_le _) ?_ ?_
      · rintro i ⟨z, i', ⟨⟩⟩ _ hi e hz
        simp only at e hz
        subst e hz
        have hfi := hfl i
        simp (disch := omega) only [cond_dec, if_pos, getN_some (List.getElem?_eq_getElem hi), Option.bind_some, cond_dec_beq, getI_fT, In_eq (colV adj j) _ (show (colV adj j).length < 4611686018427387904 by omega), ge_iff_le]
        rw [← take_snoc hi, List.filter_append, List.length_append]
        by_cases h7 : (j : Int) ≤ R[i]
        · rw [if_pos h7]
          by_cases h8 : R[i] ∈ colV adj j
          · simp only [h8, decide_true, Bool.not_true, Option.bind_some, cond_false, List.filter_cons, List.filter_nil, Bool.and_false, Bool.false_eq_true, if_false, List.length_nil, Nat.add_zero]
            exact Ok.some_iff.2 ⟨wrap_inc (by omega), rfl⟩
          · simp only [h7, h8, decide_true, decide_false, Bool.not_false, Option.bind_some, cond_true, List.filter_cons, List.filter_nil, Bool.and_self, if_true, List.length_singleton]
            exact Ok.some_iff.2 ⟨wrap_inc (by omega), by rw [wrap_inc (by omega)]; rfl⟩
        · rw [if_neg h7]
          simp only [h7, decide_false, Option.bind_some, cond_false, List.filter_cons, List.filter_nil, Bool.false_and, Bool.false_eq_true, if_false, List.length_nil, Nat.add_zero]
          exact Ok.some_iff.2 ⟨wrap_inc (by omega), rfl⟩
      · rintro ⟨z, i', ⟨⟩⟩ e hz
        simp only at e hz
        subst e hz
        simp (disch := omega) only [cond_dec, if_neg]
        exact Ok.some_iff.2 (by rw [List.take_length])
    · rintro ⟨z, i, ⟨⟩⟩ e hz
      simp only at e hz
      subst e hz
      have : ¬ ((b : Int) ≤ ((b - 1 : Nat) : Int)) := by omega
      simp only [cond_dec, if_neg this]
      exact Ok.some_iff.2 rfl
  · rintro ⟨z, ⟨⟩⟩ h
    simp only at h
    subst h
    exact Ok.some_iff.2 rfl
end
end Go.Fw
end

section
set_option linter.unusedSimpArgs false
set_option linter.unusedVariables false
namespace Go.Fw
theorem kidsV_ext {n : Nat} {f : Nat → Int} (hf : PF n f) {j : Nat} (hj : j ≤ n) : kidsV f n j = kidsV f j j := by
  unfold kidsV
  obtain ⟨d, rfl⟩ : ∃ d, n = j + d := ⟨n - j, by omega⟩
  rw [List.range_add, List.filter_append]
  have : (List.map (fun x => j + x) (List.range d)).filter (fun c => decide (f c = (j : Int))) = [] := by
    rw [List.filter_eq_nil_iff]
    intro x hx
    obtain ⟨y, hy, rfl⟩ := List.mem_map.1 hx
    have := List.mem_range.1 hy
    have := hf (j + y) (by omega)
    simp only [decide_eq_true_eq]
    omega
  rw [this, List.append_nil]
section
variable {adj : List (List Int)} (hV : Valid adj) (hn : adj.length ≤ 200)
include hV hn
theorem refColumns_fT : d_sparseref20q_Columns ((adj, ()), ()) = some (fT adj.length (colV adj), 0, ()) := refColumns_eq hV (hV.hc hn) hn
theorem refCounts_eq : d_sparseref20q_Counts ((adj, ()), ()) = some (fT adj.length (fun j => ((colV adj j).length : Int)), 0, ()) := by
  unfold d_sparseref20q_Counts
  simp only [refColumns_fT hV hn, Option.bind_some, bneI, decide_true, Bool.not_true, cond_false, fT_length]
  refine bind_eq (loop_for (r := (fT adj.length (fun j => ((colV adj j).length : Int)), ())) adj.length (fun j => (fT j (fun j => ((colV adj j).length : Int)), ())) 0 rfl rfl (Nat.zero_le _) ?_ ?_) rfl
  · intro j _ hj
    simp (disch := omega) only [cond_dec, if_pos, getI_fT, Option.bind_some, fT_length, List.length_singleton, limO_ok, wrap_inc, fT_succ]
  · simp (disch := omega) only [cond_dec, if_neg]
omit hV hn in
/-- Column j begins a fundamental supernode. -/
def fdB (adj : List (List Int)) (j : Nat) : Prop := ¬ (0 < j ∧ parF adj (j - 1) = (j : Int) ∧ (kidsV (parF adj) j j).length = 1 ∧ (colV adj (j - 1)).length = (colV adj j).length + 1)
omit hV hn in
noncomputable def fdK (adj : List (List Int)) (k : Nat) : List Int := ((List.range k).filter fun j => (open Classical in decide (fdB adj j))).map fun (j : Nat) => (j : Int)
omit hV hn in
theorem fdK_succ (adj : List (List Int)) (k : Nat) : fdK adj (k + 1) = fdK adj k ++ (open Classical in if fdB adj k then [(k : Int)] else []) := by
  unfold fdK
  rw [List.range_succ, List.filter_append, List.map_append]
  by_cases h : fdB adj k
  · simp [h]
  · simp [h]
omit hV hn in
theorem fdK_length (adj : List (List Int)) (k : Nat) : (fdK adj k).length ≤ k := by
  unfold fdK
  rw [List.length_map]
  exact Nat.le_trans (List.length_filter_le _ _) (by simp)
theorem Fundamental_ok (hb : bgn adj = 0) : d_supernode_Fundamental ((adj, ()), ()) = some (fdK adj adj.length, 0, ()) := by
  have hf := pf_parF hV hn
  unfold d_supernode_Fundamental
  simp only [analyse_eq (hV.hc hn), hb, if_true, Option.bind_some, bneI, decide_true, Bool.not_true, cond_false]
  simp only [anV, Children_eq hf hn, Option.bind_some, fT_length]
  refine bind_eq (loop_for (r := (fdK adj adj.length, ())) adj.length (fun j => (anV adj, fdK adj j, ())) 0 rfl rfl (Nat.zero_le _) ?_ ?_) rfl
  · intro j _ hj
    have hfl := fdK_length adj j
    have hcj := colV_length adj j
    simp (disch := omega) only [cond_dec, if_pos, cond_dec_beq, anV]
    by_cases h1 : 0 < j
    · have e1 : ((j : Int) > 0) := by omega
      have hcp := colV_length adj (j - 1)
      simp (disch := omega) only [if_pos e1, wrap_pred, getI_fT, Option.bind_some, beqI, cond_dec_beq, fT_length]
      by_cases h2 : parF adj (j - 1) = (j : Int)
      · simp (disch := omega) only [if_pos h2, getI_fT, Option.bind_some, kidsV_ext hf (Nat.le_of_lt hj)]
        by_cases h3 : (kidsV (parF adj) j j).length = 1
        · have e3 : (((kidsV (parF adj) j j).length : Nat) : Int) = 1 := by omega
          simp (disch := omega) only [if_pos e3, Option.bind_some, wrap_inc, getI_fT]
          by_cases h4 : (colV adj (j - 1)).length = (colV adj j).length + 1
          · have e4 : (((colV adj (j - 1)).length : Nat) : Int) = (((colV adj j).length + 1 : Nat) : Int) := by omega
            simp (disch := omega) only [cond_dec, if_pos e4, Option.bind_some, wrap_inc, fdK_succ]
            rw [if_neg (show ¬ fdB adj j from fun h => h ⟨h1, h2, h3, h4⟩), List.append_nil]
          · have e4 : ¬ (((colV adj (j - 1)).length : Nat) : Int) = (((colV adj j).length + 1 : Nat) : Int) := by omega
            simp (disch := omega) only [cond_dec, if_neg e4, Option.bind_some, wrap_inc, fdK_succ, limO_ok, List.length_singleton]
            rw [if_pos (show fdB adj j from fun h => h4 h.2.2.2)]
        · have e3 : ¬ (((kidsV (parF adj) j j).length : Nat) : Int) = 1 := by omega
          simp (disch := omega) only [if_neg e3, Option.bind_some, wrap_inc, fdK_succ, limO_ok, List.length_singleton]
          rw [if_pos (show fdB adj j from fun h => h3 h.2.2.1)]
      · simp (disch := omega) only [if_neg h2, Option.bind_some, wrap_inc, fdK_succ, limO_ok, List.length_singleton]
        rw [if_pos (show fdB adj j from fun h => h2 h.2.1)]
    · have e1 : ¬ ((j : Int) > 0) := by omega
      simp (disch := omega) only [if_neg e1, Option.bind_some, wrap_inc, fdK_succ, limO_ok, List.length_singleton]
      rw [if_pos (show fdB adj j from fun h => h1 h.1)]
  · simp (disch := omega) only [cond_dec, if_neg]
theorem refFundamental_ok (hb : bgn adj = 0) : d_sparseref21q_Fundamental ((adj, ()), ()) = some (fdK adj adj.length, 0, ()) := by
  have hf := pf_parF hV hn
  unfold d_sparseref21q_Fundamental
  simp only [Begins_eq (hV.hc hn), hb, Option.bind_some, bneI, decide_true, Bool.not_true, cond_false, refParent_eq hV hn, refCounts_eq hV hn, fT_length]
  refine bind_eq (loop_for (r := (fdK adj adj.length, ())) adj.length (fun j => (fdK adj j, ())) 0 rfl rfl (Nat.zero_le _) ?_ ?_) rfl
  · intro j _ hj
    have hfl := fdK_length adj j
    have hcj := colV_length adj j
    have hkl := kidsV_length (parF adj) j j
    simp (disch := omega) only [cond_dec, if_pos]
    refine bind_eq (y := (fdK adj (j + 1), ())) ?_ (by simp (disch := omega) only [wrap_inc])
    refine bind_eq (y := (((kidsV (parF adj) j j).length : Int), fdK adj j, ())) ?_ ?_
    · rw [← Ok.eq_iff]
      refine Ok.count (fun s => s.2.1) j (fun c s => s.1 = ((kidsV (parF adj) c j).length : Int) ∧ s.2.2.1 = fdK adj j) (i0 := 0) rfl ⟨rfl, rfl⟩ (Nat.zero_le _) ?_ ?_
      · rintro c ⟨z, i, o, ⟨⟩⟩ _ hc e ⟨hz, ho⟩
        simp only at e hz ho
        subst e hz ho
        have hkc := kidsV_length (parF adj) c j
        simp (disch := omega) only [if_pos, getI_fT, Option.bind_some, beqI, cond_dec, kidsV_succ]
        by_cases h : parF adj c = (j : Int)
        · rw [if_pos h, if_pos h]
          refine Ok.some_iff.2 ⟨wrap_inc (by omega), ?_, rfl⟩
          rw [wrap_inc (by omega), List.length_append]; rfl
        · rw [if_neg h, if_neg h, List.append_nil]
          exact Ok.some_iff.2 ⟨wrap_inc (by omega), rfl, rfl⟩
      · rintro ⟨z, i, o, ⟨⟩⟩ e ⟨hz, ho⟩
        simp only at e hz ho
        subst e hz ho
        simp (disch := omega) only [if_neg]
        exact Ok.some_iff.2 rfl
    · refine bind_eq (y := ((open Classical in decide (fdB adj j)), fdK adj j, ())) ?_ ?_
      · by_cases h1 : j = 0
        · have e1 : ((j : Int) = 0) := by omega
          have : fdB adj j := fun h => by omega
          simp only [beqI, e1, decide_true, this]
          rfl
        · have e1 : ¬ ((j : Int) = 0) := by omega
          have hcp := colV_length adj (j - 1)
          simp (disch := omega) only [beqI, bneI, decF e1, show (false == false) = true from rfl, cond_true, wrap_pred, getI_fT, Option.bind_some]
          by_cases h2 : parF adj (j - 1) = (j : Int)
          · by_cases h3 : (kidsV (parF adj) j j).length = 1
            · have e3 : (((kidsV (parF adj) j j).length : Nat) : Int) = 1 := by omega
              simp (disch := omega) only [h2, e3, decide_true, Bool.not_true, show (false == false) = true from rfl, cond_true, wrap_inc]
              congr 2
              rw [← decide_not, decide_eq_decide]
              unfold fdB
              exact ⟨fun h h' => h (by omega), fun h h' => h ⟨by omega, h2, h3, by omega⟩⟩
            · have e3 : ¬ (((kidsV (parF adj) j j).length : Nat) : Int) = 1 := by omega
              have : fdB adj j := fun h => h3 h.2.2.1
              simp only [h2, decF e3, decide_true, Bool.not_true, Bool.not_false, show (false == false) = true from rfl, show (true == false) = false from rfl, cond_true, cond_false, this]
          · have : fdB adj j := fun h => h2 h.2.1
            simp only [decF h2, Bool.not_false, show (true == false) = false from rfl, cond_false, this, decide_true]
      · rw [fdK_succ]
        by_cases h : fdB adj j
        · simp (disch := omega) only [h, decide_true, cond_true, limO_ok, List.length_singleton, Option.bind_some, if_true]
        · simp only [h, decide_false, cond_false, if_false, List.append_nil]
  · simp (disch := omega) only [cond_dec, if_neg]
end
theorem Fundamental_eq {adj : List (List Int)} (hc : ∀ l ∈ adj, l.length < 4611686018427387904) : d_supernode_Fundamental ((adj, ()), ()) = some (if bgn adj = 0 then fdK adj adj.length else [], bgn adj, ()) ∧
    d_sparseref21q_Fundamental ((adj, ()), ()) = some (if bgn adj = 0 then fdK adj adj.length else [], bgn adj, ()) := by
  by_cases hb : bgn adj = 0
  · obtain ⟨h1, h2, _⟩ := bgn_zero.1 hb
    rw [Fundamental_ok h2 h1 hb, refFundamental_ok h2 h1 hb, hb, if_pos rfl]
    exact ⟨rfl, rfl⟩
  · constructor
    · unfold d_supernode_Fundamental
      simp only [analyse_eq hc, if_neg hb, Option.bind_some, bneI, decF hb, Bool.not_false, cond_true]
    · unfold d_sparseref21q_Fundamental
      simp only [Begins_eq hc, if_neg hb, Option.bind_some, bneI, decF hb, Bool.not_false, cond_true]
end Go.Fw
end

section
set_option linter.unusedSimpArgs false
set_option linter.unusedVariables false
namespace Go.Fw
/-- A permitted partition in natural numbers. -/
structure PN (n : Nat) (f : Nat → Int) (starts : List Int) (m : Nat) (s e : Nat → Nat) : Prop where
  len : starts.length = m
  st : starts = fT m fun k => (s k : Int)
  s0 : 0 < n → 0 < m ∧ s 0 = 0
  mz : n = 0 → m = 0
  ok : ∀ k, k < m → s k < e k ∧ e k ≤ n ∧ e k ≤ s k + sz n f (e k - 1)
  nx : ∀ k, k < m → nxI starts n k = (e k : Int)
  ek : ∀ k, k + 1 < m → e k = s (k + 1)
  el : ∀ k, k + 1 = m → e k = n
theorem PermI.nat {n : Nat} {f : Nat → Int} {starts : List Int} (h : PermI n f starts) : ∃ m s e, PN n f starts m s e := by
  refine ⟨starts.length, fun k => ((starts[k]?).getD 0).toNat, fun k => (nxI starts n k).toNat, ?_⟩
  rcases h with ⟨rfl, rfl⟩ | ⟨h1, h2, h3⟩
  · exact ⟨rfl, rfl, fun h => by omega, fun _ => rfl, fun k hk => by simp at hk, fun k hk => by simp at hk, fun k hk => by simp at hk, fun k hk => by simp at hk⟩
  · have hnn := PermI.nonneg (n := n) (f := f) (m := starts.length) h2 (fun i hi h => (h3 i h).1)
    have hl : 0 < starts.length := by
      rcases Nat.eq_zero_or_pos starts.length with h | h
      · rw [List.getElem?_eq_none (by omega)] at h2; cases h2
      · exact h
    have hs : ∀ k, (h : k < starts.length) → (((starts[k]?).getD 0).toNat : Int) = starts[k] := fun k h => by
      rw [List.getElem?_eq_getElem h]
      exact Int.toNat_of_nonneg (hnn k (by omega) h)
    have hx : ∀ k, (h : k < starts.length) → ((nxI starts n k).toNat : Int) = nxI starts n k := fun k h => by
      have := (h3 k h).1
      have := hnn k (by omega) h
      omega
    refine ⟨rfl, fT_of _ _ (fun i hi => (hs i hi).symm), fun _ => ⟨hl, by show ((starts[0]?).getD 0).toNat = 0; rw [h2]; rfl⟩, fun h => by omega, fun k hk => ?_, fun k hk => (hx k hk).symm, fun k hk => ?_, fun k hk => ?_⟩
    · obtain ⟨g1, g2, g3⟩ := h3 k hk
      have e1 := hs k hk
      have e2 := hx k hk
      have e3 : (nxI starts n k - 1).toNat = (nxI starts n k).toNat - 1 := by omega
      rw [e3] at g3
      refine ⟨by omega, by omega, by omega⟩
    · show (nxI starts n k).toNat = ((starts[k + 1]?).getD 0).toNat
      unfold nxI
      rw [List.getElem?_eq_getElem hk]; rfl
    · show (nxI starts n k).toNat = n
      unfold nxI
      rw [List.getElem?_eq_none (by omega)]; simp
/-- A supernode that lies in a subtree. -/
theorem PN.sub {n : Nat} {f : Nat → Int} {starts : List Int} {m : Nat} {s e : Nat → Nat} (hf : PF n f) (hC : Contig n f) (h : PN n f starts m s e) {k : Nat} (hk : k < m) : ∀ j, s k ≤ j → j < e k → Sub n f j (e k - 1) := by
  intro j h1 h2
  obtain ⟨g1, g2, g3⟩ := h.ok k hk
  exact (Contig.iff hf hC (by omega)).2 ⟨by omega, by omega⟩
/-- Merge as long as that is permitted. -/
noncomputable def rlxPop (adj : List (List Int)) (z : Int) (last : Nat) : List Nat → Nat → List Nat × Nat
  | [], f => ([], f)
  | b :: r, f => open Classical in if (f : Int) ≤ parF adj (f - 1) ∧ parF adj (f - 1) < (last : Int) ∧ (zV adj b last : Int) ≤ z then rlxPop adj z last r b else (b :: r, f)
noncomputable def rlx (adj : List (List Int)) (z : Int) (s e : Nat → Nat) : Nat → List Nat
  | 0 => []
  | k + 1 => (rlxPop adj z (e k) (rlx adj z s e k) (s k)).2 :: (rlxPop adj z (e k) (rlx adj z s e k) (s k)).1
def toL (st : List Nat) : List Int := st.reverse.map fun (b : Nat) => (b : Int)
theorem toL_cons (b : Nat) (r : List Nat) : toL (b :: r) = toL r ++ [(b : Int)] := by simp [toL]
theorem toL_length (st : List Nat) : (toL st).length = st.length := by simp [toL]
/-- The supernodes on the stack lie in subtrees. -/
def ChainS (n : Nat) (f : Nat → Int) : List Nat → Nat → Prop
  | [], _ => True
  | b :: r, x => b < x ∧ (∀ k, b ≤ k → k < x → Sub n f k (x - 1)) ∧ ChainS n f r b
theorem ChainS.length {n : Nat} {f : Nat → Int} : ∀ {st : List Nat} {x : Nat}, ChainS n f st x → st.length ≤ x
  | [], _, _ => Nat.zero_le _
  | b :: r, x, h => by
      have := ChainS.length h.2.2
      have := h.1
      simp only [List.length_cons]; omega
section
variable {adj : List (List Int)} (hV : Valid adj) (hn : adj.length ≤ 200)
include hV hn
theorem pop_step {z : Int} {last b f : Nat} {r : List Nat} (hl : last ≤ adj.length) (hfl : f < last) (hfs : ∀ k, f ≤ k → k < last → Sub adj.length (parF adj) k (last - 1)) (hch : ChainS adj.length (parF adj) (b :: r) f)
    (h1 : (f : Int) ≤ parF adj (f - 1)) (h2 : parF adj (f - 1) < (last : Int)) : b < last ∧ (∀ k, b ≤ k → k < last → Sub adj.length (parF adj) k (last - 1)) ∧ ChainS adj.length (parF adj) r b := by
  obtain ⟨c1, c2, c3⟩ := hch
  refine ⟨by omega, fun k hk hkl => ?_, c3⟩
  rcases Nat.lt_or_ge k f with h | h
  · obtain ⟨p, hp⟩ : ∃ p : Nat, parF adj (f - 1) = (p : Int) := ⟨(parF adj (f - 1)).toNat, by omega⟩
    exact (c2 k hk h).trans (.step ⟨by omega, hp⟩ (hfs p (by omega) (by omega)))
  · exact hfs k h hkl
theorem pop_chain {z : Int} {last : Nat} (hl : last ≤ adj.length) : ∀ {st : List Nat} {f : Nat}, f < last → (∀ k, f ≤ k → k < last → Sub adj.length (parF adj) k (last - 1)) → ChainS adj.length (parF adj) st f →
    ChainS adj.length (parF adj) ((rlxPop adj z last st f).2 :: (rlxPop adj z last st f).1) last
  | [], f, h1, h2, h3 => ⟨h1, h2, trivial⟩
  | b :: r, f, h1, h2, h3 => by
      simp only [rlxPop]
      split
      · rename_i hc
        obtain ⟨q1, q2, q3⟩ := pop_step hV hn (z := z) hl h1 h2 h3 hc.1 hc.2.1
        exact pop_chain hl q1 q2 q3
      · exact ⟨h1, h2, h3⟩
theorem rlx_chain {z : Int} {starts : List Int} {m : Nat} {s e : Nat → Nat} (hC : Contig adj.length (parF adj)) (hP : PN adj.length (parF adj) starts m s e) : ∀ k, k ≤ m → ∀ x, (x = (if k < m then s k else adj.length)) → ChainS adj.length (parF adj) (rlx adj z s e k) x := by
  have hf := pf_parF hV hn
  intro k
  induction k with
  | zero => intro _ x _; trivial
  | succ k ih =>
    intro hk x hx
    have h0 := ih (by omega) (s k) (by rw [if_pos (by omega)])
    obtain ⟨g1, g2, g3⟩ := hP.ok k (by omega)
    have := pop_chain hV hn (z := z) g2 g1 (hP.sub hf hC (by omega)) h0
    have hxe : x = e k := by
      rw [hx]
      split
      · rename_i h; exact (hP.ek k h).symm
      · exact (hP.el k (by omega)).symm
    rw [hxe]
    exact this
theorem popLoop {z : Int} {last : Nat} (hl : last ≤ adj.length) {st : List Nat} {f : Nat} (hfl : f < last) (hfs : ∀ k, f ≤ k → k < last → Sub adj.length (parF adj) k (last - 1)) (hch : ChainS adj.length (parF adj) st f)
    {σ ρ : Type} {F : σ → Option (σ ⊕ ρ)} {pk : List Int → Int → σ} {rk : List Int → Int → ρ}
    (h0 : ∀ f : Nat, F (pk [] (f : Int)) = some (.inr (rk [] (f : Int))))
    (h1 : ∀ (b f : Nat) (r : List Nat), f < last → (∀ k, f ≤ k → k < last → Sub adj.length (parF adj) k (last - 1)) → ChainS adj.length (parF adj) (b :: r) f →
      F (pk (toL (b :: r)) (f : Int)) = (open Classical in if (f : Int) ≤ parF adj (f - 1) ∧ parF adj (f - 1) < (last : Int) ∧ (zV adj b last : Int) ≤ z then some (.inl (pk (toL r) (b : Int))) else some (.inr (rk (toL (b :: r)) (f : Int))))) :
    loop F (pk (toL st) (f : Int)) = some (rk (toL (rlxPop adj z last st f).1) ((rlxPop adj z last st f).2 : Int)) := by
  induction st generalizing f with
  | nil =>
    rw [loop_iff]
    exact ⟨1, by simp only [loopN]; rw [show toL [] = [] from rfl, h0]; rfl⟩
  | cons b r ih =>
    have hb := h1 b f r hfl hfs hch
    simp only [rlxPop]
    split at hb
    · rename_i hc
      rw [if_pos hc]
      obtain ⟨q1, q2, q3⟩ := pop_step hV hn (z := z) hl hfl hfs hch hc.1 hc.2.1
      have := ih q1 q2 q3
      rw [loop_iff] at this ⊢
      obtain ⟨n, hn⟩ := this
      exact ⟨n + 1, by simp only [loopN, hb]; exact hn⟩
    · rename_i hc
      rw [if_neg hc]
      rw [loop_iff]
      exact ⟨1, by simp only [loopN, hb]⟩
theorem Relax_ok (hb : bgn adj = 0) {z : Int} (hz : 0 ≤ z) {starts : List Int} (hs : starts.length < 4611686018427387904) {m : Nat} {s e : Nat → Nat} (hPI : PermI adj.length (parF adj) starts) (hP : PN adj.length (parF adj) starts m s e) :
    d_supernode_Relax ((adj, ()), starts, z, ()) = some (toL (rlx adj z s e m), 0, ()) := by
  have hf := pf_parF hV hn
  have hC := (bgn_zero.1 hb).2.2
  unfold d_supernode_Relax
  have hz' : ¬ z < 0 := by omega
  simp only [analyse_eq (hV.hc hn), hb, if_true, Option.bind_some, bneI, decide_true, Bool.not_true, cond_false]
  simp only [anV, permitted_eq hf hn _ _ hs, hPI, decF hz', decide_true, Bool.not_true, show (false == false) = true from rfl, cond_true, cond_false, Option.bind_some, fT_length]
  refine bind_eq (loop_for (r := (toL (rlx adj z s e m), ())) m (fun k => (anV adj, toL (rlx adj z s e k), ())) 0 rfl rfl (Nat.zero_le _) ?_ ?_) rfl
  · intro k _ hk
    obtain ⟨g1, g2, g3⟩ := hP.ok k hk
    have hsk : getI starts (k : Int) = some (s k : Int) := by rw [hP.st, getI_fT hk]
    have hx : (if (((k + 1 : Nat) : Int) < (starts.length : Int)) then (getI starts ((k + 1 : Nat) : Int)).bind fun y53 => some (y53, anV adj, toL (rlx adj z s e k), ()) else some ((adj.length : Int), anV adj, toL (rlx adj z s e k), ())) = some ((e k : Int), anV adj, toL (rlx adj z s e k), ()) := by
      by_cases h4 : k + 1 < m
      · rw [if_pos (by rw [hP.len]; omega), hP.ek k h4]
        have : getI starts ((k + 1 : Nat) : Int) = some (s (k + 1) : Int) := by rw [hP.st, getI_fT h4]
        rw [this]; rfl
      · rw [if_neg (by rw [hP.len]; omega), hP.el k (by omega)]
    have hlen := hP.len
    have hml : m ≤ 4611686018427387904 := by omega
    simp (disch := omega) only [cond_dec, if_pos, hsk, Option.bind_some, wrap_inc]
    have hal : ((anV adj).1.length : Int) = (adj.length : Int) := by simp [anV, fT_length]
    simp only [hal, hx, Option.bind_some]
    have hch := rlx_chain hV hn (z := z) hC hP k (by omega) (s k) (by rw [if_pos hk])
    have hch2 := pop_chain hV hn (z := z) g2 g1 (hP.sub hf hC hk) hch
    have hl2 := hch2.length
    simp only [List.length_cons] at hl2
    refine bind_eq (y := (anV adj, toL (rlx adj z s e (k + 1)), ())) ?_ rfl
    refine bind_eq (popLoop hV hn (z := z) (last := e k) (st := rlx adj z s e k) (f := s k) g2 g1 (hP.sub hf hC hk) hch (pk := fun o x => (x, anV adj, o, ())) (rk := fun o x => (x, anV adj, o, ())) ?_ ?_) ?_
    · intro f
      rfl
    · intro b f r hfl hfs hcb
      have hrl := hcb.length
      simp only [List.length_cons] at hrl
      have hbf := hcb.1
      have hlast : (toL r ++ [(b : Int)])[(toL r).length]? = some (b : Int) := by simp
      have htk : ((toL r ++ [(b : Int)]).take (toL r).length).drop 0 = toL r := by simp
      have htl := toL_length r
      have n0 : ((((toL r).length + 1 : Nat) : Int) > 0) := by omega
      simp (disch := omega) only [toL_cons, List.length_append, List.length_singleton, if_pos n0, wrap_pred, Nat.add_sub_cancel, idxN_nat, Option.bind_some, atO_some hlast, anV, getI_fT, cond_dec_beqF, natO_ok, leO_ok, posO_ok, Option.map_some, htk]
      by_cases c1 : (f : Int) ≤ parF adj (f - 1)
      · rw [if_neg (by omega)]
        by_cases c2 : parF adj (f - 1) < (e k : Int)
        · rw [if_neg (by omega)]
          obtain ⟨q1, q2, q3⟩ := pop_step hV hn (z := z) g2 hfl hfs hcb c1 c2
          simp only [zeros_eq hV hn _ _ q1 g2 q2, Option.bind_some]
          by_cases c3 : (zV adj b (e k) : Int) ≤ z
          · rw [if_neg (by omega), if_pos ⟨c1, c2, c3⟩]
            simp (disch := omega) only [Option.bind_some, List.length_append, List.length_singleton, if_pos n0, wrap_pred, Nat.add_sub_cancel, natO_ok, leO_ok, posO_ok, Option.map_some, htk]
          · rw [if_pos (by omega), if_neg (fun h => c3 h.2.2)]
            rfl
        · rw [if_pos (by omega), if_neg (fun h => c2 h.2.1)]
          rfl
      · rw [if_pos (by omega), if_neg (fun h => c1 h.1)]
        rfl
    · simp only [rlx, toL_cons, toL_length, List.length_singleton]
      rw [limO_ok (by omega)]
      rfl
  · have hlen := hP.len
    simp (disch := omega) only [cond_dec, if_neg]
theorem refRelax_ok (hb : bgn adj = 0) {z : Int} (hz : 0 ≤ z) {starts : List Int} (hs : starts.length < 4611686018427387904) {m : Nat} {s e : Nat → Nat} (hPI : PermI adj.length (parF adj) starts) (hP : PN adj.length (parF adj) starts m s e) :
    d_sparseref21q_Relax ((adj, ()), starts, z, ()) = some (toL (rlx adj z s e m), 0, ()) := by
  have hf := pf_parF hV hn
  have hC := (bgn_zero.1 hb).2.2
  unfold d_sparseref21q_Relax
  have hz' : ¬ z < 0 := by omega
  have hlen := hP.len
  simp only [Begins_eq (hV.hc hn), hb, Option.bind_some, bneI, decide_true, Bool.not_true, cond_false, refPermitted_eq hV hn _ hs, hPI, decF hz', show (false == false) = true from rfl, cond_true, refParent_eq hV hn, refColumns_fT hV hn, fT_length]
  have hr : ∀ x ∈ starts, 0 ≤ x ∧ x ≤ 4611686018427387904 := by
    intro x hx
    rw [hP.st] at hx
    obtain ⟨k, hk, rfl⟩ := mem_fT.1 hx
    have := hP.ok k hk
    omega
  refine bind_eq (loop_for (r := (toL (rlx adj z s e m), ())) m (fun k => (toL (rlx adj z s e k), ())) 0 rfl rfl (Nat.zero_le _) ?_ ?_) rfl
  · intro k _ hk
    obtain ⟨g1, g2, g3⟩ := hP.ok k hk
    have hsk : getI starts (k : Int) = some (s k : Int) := by rw [hP.st, getI_fT hk]
    have hek : nxI starts adj.length k - 1 = ((e k - 1 : Nat) : Int) := by rw [hP.nx k hk]; omega
    simp (disch := omega) only [cond_dec, if_pos, hsk, Option.bind_some, wrap_inc, last_eq starts adj.length k hs (by omega) hr hn, hek]
    have hch := rlx_chain hV hn (z := z) hC hP k (by omega) (s k) (by rw [if_pos hk])
    have hch2 := pop_chain hV hn (z := z) g2 g1 (hP.sub hf hC hk) hch
    have hl2 := hch2.length
    simp only [List.length_cons] at hl2
    refine bind_eq (popLoop hV hn (z := z) (last := e k) (st := rlx adj z s e k) (f := s k) g2 g1 (hP.sub hf hC hk) hch (pk := fun o x => (x, o, ())) (rk := fun o x => (x, o, ())) ?_ ?_) ?_
    · intro f
      rfl
    · intro b f r hfl hfs hcb
      have hrl := hcb.length
      simp only [List.length_cons] at hrl
      have hbf := hcb.1
      have hlast : (toL r ++ [(b : Int)])[(toL r).length]? = some (b : Int) := by simp
      have htk : ((toL r ++ [(b : Int)]).take (toL r).length).drop 0 = toL r := by simp
      have htl := toL_length r
      have n0 : ((((toL r).length + 1 : Nat) : Int) > 0) := by omega
      simp (disch := omega) only [toL_cons, List.length_append, List.length_singleton, if_pos n0, wrap_pred, Nat.add_sub_cancel, idxN_nat, Option.bind_some, atO_some hlast, getI_fT, cond_dec_beqF, natO_ok, leO_ok, posO_ok, Option.map_some, htk]
      by_cases c1 : (f : Int) ≤ parF adj (f - 1)
      · rw [if_neg (by omega)]
        by_cases c2 : parF adj (f - 1) < (e k : Int)
        · rw [if_neg (by omega)]
          obtain ⟨q1, q2, q3⟩ := pop_step hV hn (z := z) g2 hfl hfs hcb c1 c2
          simp only [refZeros_eq hV hn q1 g2 q2, Option.bind_some]
          by_cases c3 : (zV adj b (e k) : Int) ≤ z
          · rw [if_neg (by omega), if_pos ⟨c1, c2, c3⟩]
            simp (disch := omega) only [Option.bind_some, List.length_append, List.length_singleton, if_pos n0, wrap_pred, Nat.add_sub_cancel, idxN_nat, atO_some hlast, natO_ok, leO_ok, posO_ok, Option.map_some, htk]
          · rw [if_pos (by omega), if_neg (fun h => c3 h.2.2)]
            rfl
        · rw [if_pos (by omega), if_neg (fun h => c2 h.2.1)]
          rfl
      · rw [if_pos (by omega), if_neg (fun h => c1 h.1)]
        rfl
    · simp only [rlx, toL_cons, toL_length, List.length_singleton]
      rw [limO_ok (by omega)]
      rfl
  · simp (disch := omega) only [cond_dec, if_neg]
end
/-- Relax of any graph and lists. -/
noncomputable def relaxV (adj : List (List Int)) (starts : List Int) (z : Int) : List Int × Int :=
  open Classical in if bgn adj ≠ 0 then ([], bgn adj) else if h : PermI adj.length (parF adj) starts ∧ 0 ≤ z then (toL (rlx adj z h.1.nat.choose_spec.choose h.1.nat.choose_spec.choose_spec.choose h.1.nat.choose), 0) else ([], 1)
theorem Relax_eq {adj : List (List Int)} (hc : ∀ l ∈ adj, l.length < 4611686018427387904) {starts : List Int} (hs : starts.length < 4611686018427387904) (z : Int) :
    d_supernode_Relax ((adj, ()), starts, z, ()) = some ((relaxV adj starts z).1, (relaxV adj starts z).2, ()) ∧ d_sparseref21q_Relax ((adj, ()), starts, z, ()) = some ((relaxV adj starts z).1, (relaxV adj starts z).2, ()) := by
  unfold relaxV
  by_cases hb : bgn adj = 0
  · obtain ⟨hn, hV, hC⟩ := bgn_zero.1 hb
    have hf := pf_parF hV hn
    rw [if_neg (by simpa using hb)]
    by_cases h : PermI adj.length (parF adj) starts ∧ 0 ≤ z
    · rw [dif_pos h]
      have hP := h.1.nat.choose_spec.choose_spec.choose_spec
      exact ⟨Relax_ok hV hn hb h.2 hs h.1 hP, refRelax_ok hV hn hb h.2 hs h.1 hP⟩
    · rw [dif_neg h]
      constructor
      · unfold d_supernode_Relax
        simp only [analyse_eq hc, hb, if_true, Option.bind_some, bneI, decide_true, Bool.not_true, cond_false]
        simp only [anV, permitted_eq hf hn _ _ hs]
        by_cases h1 : PermI adj.length (parF adj) starts
        · have h2 : z < 0 := by
            rcases Int.lt_or_le z 0 with h2 | h2
            · exact h2
            · exact absurd ⟨h1, h2⟩ h
          simp only [h1, h2, decide_true, Bool.not_true, show (false == false) = true from rfl, cond_true, Option.bind_some]
        · simp only [h1, decide_false, Bool.not_false, show (true == false) = false from rfl, cond_true, cond_false, Option.bind_some]
      · unfold d_sparseref21q_Relax
        simp only [Begins_eq hc, hb, Option.bind_some, bneI, decide_true, Bool.not_true, cond_false, refPermitted_eq hV hn _ hs]
        by_cases h1 : PermI adj.length (parF adj) starts
        · have h2 : z < 0 := by
            rcases Int.lt_or_le z 0 with h2 | h2
            · exact h2
            · exact absurd ⟨h1, h2⟩ h
          simp only [h1, h2, decide_true, Bool.not_true, show (false == false) = true from rfl, cond_true, Option.bind_some]
        · simp only [h1, decide_false, Bool.not_false, show (true == false) = false from rfl, cond_true, cond_false, Option.bind_some]
  · rw [if_pos hb]
    constructor
    · unfold d_supernode_Relax
      simp only [analyse_eq hc, if_neg hb, Option.bind_some, bneI, decF hb, Bool.not_false, cond_true]
    · unfold d_sparseref21q_Relax
      simp only [Begins_eq hc, Option.bind_some, bneI, decF hb, Bool.not_false, cond_true]
end Go.Fw
end

section
set_option linter.unusedSimpArgs false
set_option linter.unusedVariables false
namespace Go.Fw
/-- The last supernode before k that begins at p or before. -/
def lastLe (s : Nat → Nat) (p : Nat) : Nat → Int
  | 0 => -1
  | k + 1 => if s k ≤ p then (k : Int) else lastLe s p k
abbrev FrT := Int × (Int × (List Int × (Int × Unit)))
section
variable {n : Nat} {f : Nat → Int} {starts : List Int} {m : Nat} {s e : Nat → Nat} (hP : PN n f starts m s e)
include hP
theorem PN.mono {k q : Nat} (hkq : k < q) (hq : q < m) : e k ≤ s q := by
  induction q with
  | zero => omega
  | succ q ih =>
    rcases Nat.lt_or_ge k q with h | h
    · have h1 := ih h (by omega)
      have h2 := hP.ok q (by omega)
      have h3 := hP.ek q hq
      omega
    · obtain rfl : k = q := by omega
      rw [hP.ek k hq]; exact Nat.le_refl _
theorem PN.cover {p : Nat} (hp : p < n) : ∃ q, q < m ∧ s q ≤ p ∧ p < e q := by
  have h0 := hP.s0 (by omega)
  have key : ∀ k, k < m → p < e k → ∃ q, q < m ∧ s q ≤ p ∧ p < e q := by
    intro k
    induction k with
    | zero => intro hk hpk; exact ⟨0, hk, by omega, hpk⟩
    | succ k ih =>
      intro hk hpk
      rcases Nat.lt_or_ge p (e k) with h | h
      · exact ih (by omega) h
      · exact ⟨k + 1, hk, by rw [← hP.ek k hk]; exact h, hpk⟩
  have h2 := hP.el (m - 1) (by omega)
  exact key (m - 1) (by omega) (by omega)
theorem PN.uniq {p k q : Nat} (hk : k < m) (hq : q < m) (h1 : s k ≤ p) (h2 : p < e k) (h3 : s q ≤ p) (h4 : p < e q) : k = q := by
  rcases Nat.lt_trichotomy k q with h | h | h
  · have := hP.mono h hq; omega
  · exact h
  · have := hP.mono h hk; omega
theorem PN.lastLe {p k : Nat} (hk : k < m) (h1 : s k ≤ p) (h2 : p < e k) : ∀ m', k < m' → m' ≤ m → lastLe s p m' = (k : Int) := by
  intro m'
  induction m' with
  | zero => intro h; omega
  | succ q ih =>
    intro h3 h4
    rcases Nat.lt_or_ge k q with h | h
    · have := hP.mono h (by omega)
      simp only [Fw.lastLe]
      rw [if_neg (by omega)]
      exact ih h (by omega)
    · obtain rfl : q = k := by omega
      simp only [Fw.lastLe]
      rw [if_pos h1]
end
/-- The front of supernode k; parents from supernode j on are not set. -/
noncomputable def frJ (adj : List (List Int)) (m : Nat) (s e : Nat → Nat) (j k : Nat) : FrT :=
  ((s k : Int), ((e k : Int), (rowsV adj (s k) (e k), ((if k < j ∧ 0 ≤ parF adj (e k - 1) then lastLe s (parF adj (e k - 1)).toNat m else -1), ()))))
noncomputable def frV (adj : List (List Int)) (m : Nat) (s e : Nat → Nat) (k : Nat) : FrT := frJ adj m s e m k
section
variable {adj : List (List Int)} (hV : Valid adj) (hn : adj.length ≤ 200)
include hV hn
theorem Fronts_ok (hb : bgn adj = 0) {starts : List Int} (hs : starts.length < 4611686018427387904) {m : Nat} {s e : Nat → Nat} (hPI : PermI adj.length (parF adj) starts) (hP : PN adj.length (parF adj) starts m s e) :
    d_supernode_Fronts ((adj, ()), starts, ()) = some (fT m (frV adj m s e), 0, ()) := by
  have hf := pf_parF hV hn
  have hC := (bgn_zero.1 hb).2.2
  have hlen := hP.len
  have hmn : m ≤ adj.length := by
    have hsk : ∀ k, k < m → k ≤ s k := by
      intro k
      induction k with
      | zero => intro _; exact Nat.zero_le _
      | succ k ih => intro hk; have h1 := ih (by omega); have h2 := hP.ok k (by omega); have h3 := hP.ek k hk; omega
    rcases Nat.eq_zero_or_pos m with h | h
    · omega
    · have h1 := hsk (m - 1) (by omega); have h2 := hP.ok (m - 1) (by omega); omega
  unfold d_supernode_Fronts
  simp only [analyse_eq (hV.hc hn), hb, if_true, Option.bind_some, bneI, decide_true, Bool.not_true, cond_false]
  have hal : ((anV adj).1.length : Int) = (adj.length : Int) := by simp [anV, fT_length]
  have hpe : d_supernode_analysis_permitted (anV adj, starts, ()) = some (true, ()) := by
    simp only [anV, permitted_eq hf hn _ _ hs, hPI, decide_true]
  simp only [hpe, hal, Option.bind_some, Bool.not_true, cond_false, madeO_ok (show adj.length ≤ 4294967296 by omega), fT_replicate]
  refine bind_eq (loop_for (r := (anV adj, fT adj.length (fun j => lastLe s j m), fT m (frJ adj m s e 0), ())) m (fun k => (anV adj, fT adj.length (fun j => if j < (if k < m then s k else adj.length) then lastLe s j m else 0), fT k (frJ adj m s e 0), ())) 0 rfl ?_ (Nat.zero_le _) ?_ ?_) ?_
  · congr 2
    rcases Nat.eq_zero_or_pos adj.length with h | h
    · rw [h]; rfl
    · have h0 := hP.s0 h
      rw [if_pos h0.1, h0.2]
      exact fT_congr fun v _ => by rw [if_neg (by omega)]
  · intro k _ hk
    obtain ⟨g1, g2, g3⟩ := hP.ok k hk
    have hsk : getI starts (k : Int) = some (s k : Int) := by rw [hP.st, getI_fT hk]
    rw [if_pos hk]
    have hek : e k = (if k + 1 < m then s (k + 1) else adj.length) := by
      by_cases h : k + 1 < m
      · rw [if_pos h, hP.ek k h]
      · rw [if_neg h, hP.el k (by omega)]
    rw [← hek]
    generalize hO : fT adj.length (fun j => if j < s k then lastLe s j m else 0) = O
    have hx : (if (((k + 1 : Nat) : Int) < (starts.length : Int)) then (getI starts ((k + 1 : Nat) : Int)).bind fun y53 => some (y53, anV adj, O, fT k (frJ adj m s e 0), ()) else some ((adj.length : Int), anV adj, O, fT k (frJ adj m s e 0), ())) = some ((e k : Int), anV adj, O, fT k (frJ adj m s e 0), ()) := by
      by_cases h4 : k + 1 < m
      · rw [if_pos (by rw [hP.len]; omega), hP.ek k h4]
        have : getI starts ((k + 1 : Nat) : Int) = some (s (k + 1) : Int) := by rw [hP.st, getI_fT h4]
        rw [this]; rfl
      · rw [if_neg (by rw [hP.len]; omega), hP.el k (by omega)]
    simp (disch := omega) only [cond_dec, if_pos, hsk, Option.bind_some, wrap_inc, hal, hx]
    subst hO
    refine bind_eq (y := (anV adj, fT adj.length (fun j => if j < e k then lastLe s j m else 0), fT (k + 1) (frJ adj m s e 0), ())) ?_ rfl
    refine bind_eq (loop_for (r := (anV adj, fT adj.length (fun j => if j < e k then lastLe s j m else 0), fT k (frJ adj m s e 0), ())) (e k) (fun i => (anV adj, fT adj.length (fun j => if j < i then lastLe s j m else 0), fT k (frJ adj m s e 0), ())) (s k) rfl rfl (by omega) ?_ ?_) ?_
    · intro i h1 h2
      have e1 : fT adj.length (fun j => if j < i + 1 then lastLe s j m else 0) = fT adj.length (upd (fun j => if j < i then lastLe s j m else 0) i (k : Int)) := fT_congr fun v hv => by
        simp only [upd]
        by_cases h : v = i
        · subst h
          rw [if_pos rfl, if_pos (by omega)]
          exact hP.lastLe hk h1 h2 m hk (Nat.le_refl _)
        · rw [if_neg h]
          by_cases h3 : v < i
          · rw [if_pos h3, if_pos (by omega)]
          · rw [if_neg h3, if_neg (by omega)]
      simp (disch := omega) only [if_pos, fT_length, idxN_nat, Option.bind_some, atO_fT, fT_set, wrap_inc, e1]
    · simp (disch := omega) only [if_neg]
    · have hfr : ((s k : Int), ((e k : Int), (rowsV adj (s k) (e k), ((-1 : Int), ())))) = frJ adj m s e 0 k := by
        unfold frJ
        rw [if_neg (fun h => by omega)]
      simp (disch := omega) only [anV, rows_eq hV hn _ _ g1 g2, Option.bind_some, fT_length, List.length_singleton, limO_ok, hfr, fT_succ]
  · simp (disch := omega) only [cond_dec, if_neg]
    congr 3
    refine congrArg (fun x => (x, fT m (frJ adj m s e 0), ())) (fT_congr fun v hv => ?_)
    rw [if_pos hv]
  · refine bind_eq (loop_for (r := (fT m (frV adj m s e), ())) m (fun k => (anV adj, fT adj.length (fun j => lastLe s j m), fT m (frJ adj m s e k), ())) 0 rfl rfl (Nat.zero_le _) ?_ ?_) rfl
    · intro k _ hk
      obtain ⟨g1, g2, g3⟩ := hP.ok k hk
      have hfk : frJ adj m s e k k = ((s k : Int), ((e k : Int), (rowsV adj (s k) (e k), ((-1 : Int), ())))) := by
        unfold frJ
        rw [if_neg (fun h => by omega)]
      have hpk := hf (e k - 1) (by omega)
      simp (disch := omega) only [cond_dec, if_pos, fT_length, idxN_nat, Option.bind_some, atO_fT, hfk, wrap_pred]
      simp (disch := omega) only [anV, getI_fT, Option.bind_some]
      by_cases hp : parF adj (e k - 1) ≥ 0
      · obtain ⟨p, hp'⟩ : ∃ p : Nat, parF adj (e k - 1) = (p : Int) := ⟨(parF adj (e k - 1)).toNat, by omega⟩
        have e1 : fT m (frJ adj m s e (k + 1)) = fT m (upd (frJ adj m s e k) k ((s k : Int), ((e k : Int), (rowsV adj (s k) (e k), (lastLe s p m, ()))))) := fT_congr fun v hv => by
          simp only [upd]
          by_cases h : v = k
          · subst h
            rw [if_pos rfl]
            unfold frJ
            rw [if_pos ⟨by omega, hp⟩, hp', Int.toNat_natCast]
          · rw [if_neg h]
            unfold frJ
            have : (v < k + 1 ∧ 0 ≤ parF adj (e v - 1)) ↔ (v < k ∧ 0 ≤ parF adj (e v - 1)) := by
              constructor <;> intro h' <;> exact ⟨by omega, h'.2⟩
            simp only [this]
        rw [if_pos hp]
        simp (disch := omega) only [hp', fT_length, idxN_nat, Option.bind_some, atO_fT, hfk, fT_set, wrap_inc, e1]
      · have e1 : fT m (frJ adj m s e (k + 1)) = fT m (frJ adj m s e k) := fT_congr fun v hv => by
          unfold frJ
          have : (v < k + 1 ∧ 0 ≤ parF adj (e v - 1)) ↔ (v < k ∧ 0 ≤ parF adj (e v - 1)) := by
            constructor
            · intro h'
              refine ⟨?_, h'.2⟩
              rcases Nat.lt_or_ge v k with h | h
              · exact h
              · obtain rfl : v = k := by omega
                exact absurd h'.2 hp
            · intro h'; exact ⟨by omega, h'.2⟩
          simp only [this]
        rw [if_neg hp]
        simp (disch := omega) only [Option.bind_some, wrap_inc, e1]
    · simp (disch := omega) only [cond_dec, if_neg, fT_length]
      rfl
theorem refFronts_ok (hb : bgn adj = 0) {starts : List Int} (hs : starts.length < 4611686018427387904) {m : Nat} {s e : Nat → Nat} (hPI : PermI adj.length (parF adj) starts) (hP : PN adj.length (parF adj) starts m s e) :
    d_sparseref21q_Fronts ((adj, ()), starts, ()) = some (fT m (frV adj m s e), 0, ()) := by
  have hf := pf_parF hV hn
  have hC := (bgn_zero.1 hb).2.2
  have hlen := hP.len
  have hmn : m ≤ adj.length := by
    have hsk : ∀ k, k < m → k ≤ s k := by
      intro k
      induction k with
      | zero => intro _; exact Nat.zero_le _
      | succ k ih => intro hk; have h1 := ih (by omega); have h2 := hP.ok k (by omega); have h3 := hP.ek k hk; omega
    rcases Nat.eq_zero_or_pos m with h | h
    · omega
    · have h1 := hsk (m - 1) (by omega); have h2 := hP.ok (m - 1) (by omega); omega
  unfold d_sparseref21q_Fronts
  have hr : ∀ x ∈ starts, 0 ≤ x ∧ x ≤ 4611686018427387904 := by
    intro x hx
    rw [hP.st] at hx
    obtain ⟨k, hk, rfl⟩ := mem_fT.1 hx
    have := hP.ok k hk
    omega
  simp only [Begins_eq (hV.hc hn), hb, Option.bind_some, bneI, decide_true, Bool.not_true, cond_false, refPermitted_eq hV hn _ hs, hPI, refParent_eq hV hn, refColumns_fT hV hn, fT_length]
  refine bind_eq (loop_for (r := (fT m (frV adj m s e), ())) m (fun k => (fT k (frV adj m s e), ())) 0 rfl rfl (Nat.zero_le _) ?_ ?_) rfl
  · intro k _ hk
    obtain ⟨g1, g2, g3⟩ := hP.ok k hk
    have hsk : getI starts (k : Int) = some (s k : Int) := by rw [hP.st, getI_fT hk]
    have hek : nxI starts adj.length k - 1 = ((e k - 1 : Nat) : Int) := by rw [hP.nx k hk]; omega
    have hpk := hf (e k - 1) (by omega)
    simp (disch := omega) only [cond_dec, if_pos, hsk, Option.bind_some, last_eq starts adj.length k hs (by omega) hr hn, hek, refRows_eq hV hn g1 g2, wrap_inc]
    have e1 : ((e k - 1 + 1 : Nat) : Int) = (e k : Int) := by omega
    rw [e1]
    have hfr : frV adj m s e k = ((s k : Int), ((e k : Int), (rowsV adj (s k) (e k), ((if 0 ≤ parF adj (e k - 1) then lastLe s (parF adj (e k - 1)).toNat m else -1), ())))) := by
      unfold frV frJ
      have : (k < m ∧ 0 ≤ parF adj (e k - 1)) ↔ 0 ≤ parF adj (e k - 1) := ⟨fun h => h.2, fun h => ⟨hk, h⟩⟩
      simp only [this]
    refine bind_eq (y := (fT k (frV adj m s e), frV adj m s e k, ())) ?_ ?_
    · rcases hpk with hp | hp
      · have hfr1 : frV adj m s e k = ((s k : Int), ((e k : Int), (rowsV adj (s k) (e k), ((-1 : Int), ())))) := by
          rw [hfr, hp, if_neg (by omega)]
        have c1 : ¬ ((-1 : Int) ≥ 0) := by omega
        rw [hfr1]
        refine loop_iff.2 ⟨1, ?_⟩
        by_cases h4 : ((k + 1 : Nat) : Int) < (starts.length : Int)
        · simp (disch := omega) only [loopN, if_pos h4, getI_fT, Option.bind_some, cond_dec_beq, cond_dec, hp, if_neg c1]
        · simp (disch := omega) only [loopN, if_neg h4, getI_fT, Option.bind_some, cond_dec_beq, cond_dec]
      · obtain ⟨p, hp'⟩ : ∃ p : Nat, parF adj (e k - 1) = (p : Int) := ⟨(parF adj (e k - 1)).toNat, by omega⟩
        have hk1 : k + 1 < m := by
          rcases Nat.lt_or_ge (k + 1) m with h | h
          · exact h
          · have := hP.el k (by omega); omega
        have hsk1 := hP.ek k hk1
        refine loop_for (r := (fT k (frV adj m s e), frV adj m s e k, ())) m (fun q => (fT k (frV adj m s e), ((s k : Int), ((e k : Int), (rowsV adj (s k) (e k), ((if q = k + 1 then -1 else lastLe s p q), ())))), ())) (k + 1) rfl ?_ (by omega) ?_ ?_
        · simp only [if_true]
        · intro q h1 h2
          have hsq : getI starts (q : Int) = some (s q : Int) := by rw [hP.st, getI_fT h2]
          simp (disch := omega) only [cond_dec_beq, if_pos, getI_fT, Option.bind_some, hp', cond_dec, hsq, wrap_inc]
          simp only [Fw.lastLe]
          rw [if_neg (show ¬ q + 1 = k + 1 by omega)]
          by_cases h3 : s q ≤ p
          · rw [if_pos (by omega), if_pos h3]
            rfl
          · rw [if_neg (by omega), if_neg h3]
            rw [if_neg (show ¬ q = k + 1 by intro h; subst h; omega)]
            rfl
        · simp (disch := omega) only [cond_dec_beq, if_neg, Option.bind_some]
          rw [hfr, hp', Int.toNat_natCast, if_pos (by omega)]
    · simp (disch := omega) only [fT_length, List.length_singleton, limO_ok, Option.bind_some, fT_succ]
  · simp (disch := omega) only [cond_dec, if_neg]
end
end Go.Fw
end

section
set_option linter.unusedSimpArgs false
set_option linter.unusedVariables false
namespace Go.Fw
/-- Fronts of any graph and lists. -/
noncomputable def frontsV (adj : List (List Int)) (starts : List Int) : List FrT × Int :=
  open Classical in if bgn adj ≠ 0 then ([], bgn adj) else if h : PermI adj.length (parF adj) starts then (fT h.nat.choose (frV adj h.nat.choose h.nat.choose_spec.choose h.nat.choose_spec.choose_spec.choose), 0) else ([], 1)
theorem Fronts_eq {adj : List (List Int)} (hc : ∀ l ∈ adj, l.length < 4611686018427387904) {starts : List Int} (hs : starts.length < 4611686018427387904) :
    d_supernode_Fronts ((adj, ()), starts, ()) = some ((frontsV adj starts).1, (frontsV adj starts).2, ()) ∧ d_sparseref21q_Fronts ((adj, ()), starts, ()) = some ((frontsV adj starts).1, (frontsV adj starts).2, ()) := by
  unfold frontsV
  by_cases hb : bgn adj = 0
  · obtain ⟨hn, hV, hC⟩ := bgn_zero.1 hb
    have hf := pf_parF hV hn
    rw [if_neg (by simpa using hb)]
    by_cases h : PermI adj.length (parF adj) starts
    · rw [dif_pos h]
      have hP := h.nat.choose_spec.choose_spec.choose_spec
      exact ⟨Fronts_ok hV hn hb hs h hP, refFronts_ok hV hn hb hs h hP⟩
    · rw [dif_neg h]
      constructor
      · unfold d_supernode_Fronts
        simp only [analyse_eq hc, hb, if_true, Option.bind_some, bneI, decide_true, Bool.not_true, cond_false]
        simp only [anV, permitted_eq hf hn _ _ hs, h, decide_false, Bool.not_false, cond_true, Option.bind_some]
      · unfold d_sparseref21q_Fronts
        simp only [Begins_eq hc, hb, Option.bind_some, bneI, decide_true, Bool.not_true, cond_false, refPermitted_eq hV hn _ hs, h, decide_false, Bool.not_false, cond_true]
  · rw [if_pos hb]
    constructor
    · unfold d_supernode_Fronts
      simp only [analyse_eq hc, if_neg hb, Option.bind_some, bneI, decF hb, Bool.not_false, cond_true]
    · unfold d_sparseref21q_Fronts
      simp only [Begins_eq hc, Option.bind_some, bneI, decF hb, Bool.not_false, cond_true]
theorem Mul64q_eq : ∀ c : Nat, c < 201 → d_math_bits_Mul64 (1, (c : Int), ()) = some (0, (c : Int), ()) := by
  unfold d_math_bits_Mul64
  decide +kernel
theorem Repeat_eq (x : Int) {c : Nat} (h0 : 0 < c) (hc : c ≤ 200) : d_slices_Repeat_int_int ([x], (c : Int), ()) = some (List.replicate c x, ()) := by
  unfold d_slices_Repeat_int_int
  have e1 : IntKind.u64.wrap (c : Int) = (c : Int) := by rw [wrapU64q_eq]; omega
  have e2 : IntKind.u64.wrap ((1 : Nat) : Int) = 1 := by rw [wrapU64q_eq]; rfl
  have hneg : ¬ ((c : Int) < 0) := by omega
  have hbig : ¬ ((c : Int) > 9223372036854775807) := by omega
  simp only [cond_dec, if_neg hneg, Option.bind_some, d_math_bits_Mul, e1, e2, Mul64q_eq c (by omega), cond_dec_beqF, show ¬ ((0 : Int) > 0) by omega, if_false, decF hbig, cond_false, wrapN (show c < 9223372036854775808 by omega), madeO_ok (show c ≤ 4294967296 by omega),
    List.length_replicate, List.length_singleton, Nat.sub_zero]
  rw [← Ok.eq_iff]
  refine Ok.bind_of (P := fun q => q.1 = List.replicate c x) ?_ (by rintro ⟨q, ⟨⟩⟩ h; simp only at h; subst h; exact Ok.some_iff.2 rfl)
  have cp : ∀ k : Nat, k ≤ c → List.replicate k x ++ List.replicate (c - k) 0 = fT c (fun i => if i < k then x else 0) := fun k hk => by
    rw [fT_replicate, fT_replicate, fT_append]
    have : k + (c - k) = c := by omega
    rw [this]
  refine Ok.loop (fun s => ∃ k : Nat, s.1 = (k : Int) ∧ 0 < k ∧ k ≤ c ∧ s.2.1 = fT c (fun i => if i < k then x else 0)) (fun s => c - s.1.toNat) ⟨1, ?_, by omega, by omega, ?_⟩ ?_
  · show ((min 1 c : Nat) : Int) = 1
    rw [Nat.min_eq_left (by omega)]; rfl
  · show cpL (List.replicate c 0) [x] 0 c = _
    unfold cpL
    rw [Nat.min_eq_left (show [x].length ≤ c - 0 by simp; omega), List.take_zero, List.take_of_length_le (show [x].length ≤ c - 0 by simp; omega), List.nil_append, List.drop_replicate, fT_replicate]
    show [x] ++ fT (c - 1) (fun _ => 0) = _
    have : [x] = fT 1 (fun _ => x) := rfl
    rw [this, fT_append]
    have : 1 + (c - 1) = c := by omega
    rw [this]
  · rintro ⟨s, o, ⟨⟩⟩ ⟨k, hk, hk0, hkc, ho⟩
    simp only at hk ho
    subst hk ho
    simp only [fT_length]
    by_cases h : k < c
    · simp (disch := omega) only [if_pos, natO_ok, leO_ok, posO_ok, Option.bind_some, Option.map_some, List.drop_zero, fT_take, fT_length]
      refine Ok.some_iff.2 ⟨⟨k + min k (c - k), wrap_add (by omega), by omega, by omega, ?_⟩, ?_⟩
      · show cpL (fT c fun i => if i < k then x else 0) (fT k fun i => if i < k then x else 0) k c = _
        unfold cpL
        have e5 : (fT k fun i => if i < k then x else 0) = fT k fun _ => x := fT_congr fun i hi => by rw [if_pos hi]
        have e6 : (fT k fun (_ : Nat) => x).take (c - k) = fT (min k (c - k)) fun _ => x := by
          rcases Nat.le_total (c - k) k with h1 | h1
          · rw [fT_take _ _ _ h1, Nat.min_eq_right h1]
          · rw [List.take_of_length_le (by rw [fT_length]; exact h1), Nat.min_eq_left h1]
        rw [fT_take _ _ _ hkc, fT_length, e5, e6, fT_drop, fT_append, fT_append]
        have : k + (min k (c - k) + (c - (k + min k (c - k)))) = c := by omega
        rw [this]
        refine fT_congr fun i hi => ?_
        by_cases h1 : i < k
        · rw [if_pos h1, if_pos (by omega)]
        · rw [if_neg h1]
          by_cases h2 : i - k < min k (c - k)
          · rw [if_pos h2, if_pos (by omega)]
          · rw [if_neg h2, if_neg (by omega), if_neg (by omega)]
      · show c - (IntKind.i64.wrap ((k : Int) + ((min k (c - k) : Nat) : Int))).toNat < c - (k : Int).toNat
        rw [wrap_add (by omega)]
        omega
    · simp (disch := omega) only [if_neg]
      refine Ok.some_iff.2 ?_
      show _ = _
      rw [fT_replicate]
      exact fT_congr fun i hi => by rw [if_pos (by omega)]
end Go.Fw
end

section
set_option linter.unusedSimpArgs false
set_option linter.unusedVariables false
namespace Go.Fw
/-- Where the columns of front k begin if they follow one another. -/
def cE (l : List FrT) : Nat → Nat
  | 0 => 0
  | k + 1 => ((l[k]?).map fun (x : FrT) => x.2.1.toNat).getD 0
def ColK (n : Nat) (l : List FrT) (k : Nat) : Prop := ∃ x : FrT, l[k]? = some x ∧ x.1 = (cE l k : Int) ∧ (cE l k : Int) < x.2.1 ∧ x.2.1 ≤ (n : Int)
def CO (n : Nat) (l : List FrT) : Prop := (∀ k, k < l.length → ColK n l k) ∧ cE l l.length = n
theorem cE_succ {l : List FrT} {k : Nat} (h : k < l.length) (h0 : 0 ≤ l[k].2.1) : (cE l (k + 1) : Int) = l[k].2.1 := by
  simp only [cE, List.getElem?_eq_getElem h, Option.map_some, Option.getD_some]
  omega
theorem ColK.at {n : Nat} {l : List FrT} {k : Nat} (hk : k < l.length) (h : ColK n l k) : l[k].1 = (cE l k : Int) ∧ l[k].2.1 = (cE l (k + 1) : Int) ∧ cE l k < cE l (k + 1) ∧ cE l (k + 1) ≤ n := by
  obtain ⟨x, h1, h2, h3, h4⟩ := h
  rw [List.getElem?_eq_getElem hk] at h1
  simp only [Option.some.injEq] at h1
  subst h1
  have := cE_succ hk (by omega)
  omega
theorem cE_mono {n : Nat} {l : List FrT} {m : Nat} (h : ∀ k, k < m → k < l.length ∧ ColK n l k) : ∀ a b, a ≤ b → b ≤ m → cE l a ≤ cE l b := by
  intro a b hab
  induction b with
  | zero => intro _; obtain rfl : a = 0 := by omega
            exact Nat.le_refl _
  | succ b ih =>
    intro hb
    rcases Nat.lt_or_ge a (b + 1) with h1 | h1
    · have h2 := ih (by omega) (by omega)
      obtain ⟨h3, h4⟩ := h b (by omega)
      have := h4.at h3
      omega
    · obtain rfl : a = b + 1 := by omega
      exact Nat.le_refl _
theorem cE_lastLe {n : Nat} {l : List FrT} {m : Nat} (h : ∀ k, k < m → k < l.length ∧ ColK n l k) {v k : Nat} (hk : k < m) (h1 : cE l k ≤ v) (h2 : v < cE l (k + 1)) : ∀ m', k < m' → m' ≤ m → lastLe (cE l) v m' = (k : Int) := by
  intro m'
  induction m' with
  | zero => intro h; omega
  | succ q ih =>
    intro h3 h4
    rcases Nat.lt_or_ge k q with h5 | h5
    · have := cE_mono h (k + 1) q (by omega) (by omega)
      simp only [Fw.lastLe]
      rw [if_neg (by omega)]
      exact ih h5 (by omega)
    · obtain rfl : q = k := by omega
      simp only [Fw.lastLe]
      rw [if_pos h1]
theorem cE_cover {n : Nat} {l : List FrT} (h : CO n l) {v : Nat} (hv : v < n) : ∃ k, k < l.length ∧ cE l k ≤ v ∧ v < cE l (k + 1) := by
  have key : ∀ m, m ≤ l.length → v < cE l m → ∃ k, k < m ∧ cE l k ≤ v ∧ v < cE l (k + 1) := by
    intro m
    induction m with
    | zero => intro _ h; exact absurd h (Nat.not_lt_zero _)
    | succ m ih =>
      intro hm hvm
      rcases Nat.lt_or_ge v (cE l m) with h1 | h1
      · obtain ⟨k, h2, h3⟩ := ih (by omega) h1
        exact ⟨k, by omega, h3⟩
      · exact ⟨m, by omega, h1, hvm⟩
  obtain ⟨k, h2, h3⟩ := key l.length (Nat.le_refl _) (by rw [h.2]; exact hv)
  exact ⟨k, h2, h3⟩
theorem columns_eq (l : List FrT) {n : Nat} (hn : n ≤ 200) (hl : l.length < 4611686018427387904) : Ok (d_supernode_columns (l, (n : Int), ())) (fun r => (r.2.1 = true ↔ CO n l) ∧ (CO n l → r.1 = fT n (fun v => lastLe (cE l) v l.length))) := by
  classical
  unfold d_supernode_columns
  refine Ok.bind_of (P := fun q => match q with | .inl r => (∀ k, k < l.length → ColK n l k) ∧ r.1 = fT (cE l l.length) (fun v => lastLe (cE l) v l.length) | .inr r => ¬ CO n l ∧ r = ([], false, ())) ?_ ?_
  · refine Ok.for l.length (fun k t => (∀ i, i < k → i < l.length → ColK n l i) ∧ t.1 = fT (cE l k) (fun v => lastLe (cE l) v k)) (i0 := 0) rfl ⟨fun i h => by omega, rfl⟩ (Nat.zero_le _) ?_ ?_
    · rintro k ⟨o, ⟨⟩⟩ _ hk ⟨hI, ho⟩
      simp only at ho
      subst ho
      have hI' : ∀ i, i < k → i < l.length ∧ ColK n l i := fun i hi => ⟨by omega, hI i hi (by omega)⟩
      have hcn : cE l k ≤ n := by
        cases k with
        | zero => exact Nat.zero_le _
        | succ k => exact ((hI' k (by omega)).2.at (by omega)).2.2.2
      have hgk := getN_some (List.getElem?_eq_getElem hk)
      simp (disch := omega) only [cond_dec, if_pos, hgk, Option.bind_some, fT_length, bneI]
      have hbad : ¬ (l[k].1 = (cE l k : Int) ∧ (cE l k : Int) < l[k].2.1 ∧ l[k].2.1 ≤ (n : Int)) → ¬ CO n l := fun h hc => by
        obtain ⟨x, h1, h2⟩ := hc.1 k hk
        rw [List.getElem?_eq_getElem hk] at h1
        simp only [Option.some.injEq] at h1
        subst h1
        exact h h2
      by_cases c1 : l[k].1 = (cE l k : Int)
      · by_cases c2 : l[k].2.1 ≤ l[k].1
        · simp only [c1, decide_true, Bool.not_true, show (false == false) = true from rfl, cond_true, decT (show l[k].2.1 ≤ (cE l k : Int) by omega), show (true == false) = false from rfl, cond_false, Option.bind_some]
          exact Ok.some_iff.2 ⟨hbad (fun h => by omega), rfl⟩
        · by_cases c3 : l[k].2.1 > (n : Int)
          · simp only [c1, decide_true, Bool.not_true, show (false == false) = true from rfl, cond_true, decF (show ¬ l[k].2.1 ≤ (cE l k : Int) by omega), decT c3, Option.bind_some]
            exact Ok.some_iff.2 ⟨hbad (fun h => by omega), rfl⟩
          · have hK : ColK n l k := ⟨l[k], List.getElem?_eq_getElem hk, c1, by omega, by omega⟩
            obtain ⟨h1, h2, h3, h4⟩ := hK.at hk
            have hw : IntKind.i64.wrap (l[k].2.1 - l[k].1) = ((cE l (k + 1) - cE l k : Nat) : Int) := by
              rw [h1, h2, wrap_sub (by omega) (by omega)]
            simp only [c1, decide_true, Bool.not_true, show (false == false) = true from rfl, cond_true, decF (show ¬ l[k].2.1 ≤ (cE l k : Int) by omega), decF c3, cond_false, Option.bind_some]
            rw [← c1]
            rw [hw, Repeat_eq _ (by omega) (by omega)]
            simp (disch := omega) only [Option.bind_some, List.length_replicate, limO_ok, wrap_inc, fT_length]
            refine Ok.some_iff.2 ⟨rfl, fun i hi h => ?_, ?_⟩
            · rcases Nat.lt_or_ge i k with h5 | h5
              · exact hI i h5 h
              · obtain rfl : i = k := by omega
                exact hK
            · show fT (cE l k) (fun v => lastLe (cE l) v k) ++ List.replicate (cE l (k + 1) - cE l k) (k : Int) = _
              rw [fT_replicate, fT_append]
              have e1 : cE l k + (cE l (k + 1) - cE l k) = cE l (k + 1) := by omega
              rw [e1]
              refine fT_congr fun v hv => ?_
              simp only [Fw.lastLe]
              by_cases h5 : v < cE l k
              · rw [if_pos h5, if_neg (by omega)]
              · rw [if_neg h5, if_pos (by omega)]
      · simp only [decF c1, Bool.not_false, show (true == false) = false from rfl, cond_false, cond_true, Option.bind_some]
        exact Ok.some_iff.2 ⟨hbad (fun h => c1 h.1), rfl⟩
    · rintro ⟨o, ⟨⟩⟩ ⟨hI, ho⟩
      simp only at ho
      subst ho
      simp (disch := omega) only [cond_dec, if_neg]
      exact Ok.some_iff.2 ⟨fun k hk => hI k hk hk, rfl⟩
  · rintro (⟨o, ⟨⟩⟩ | r) h
    · obtain ⟨h1, ho⟩ := h
      simp only at ho
      subst ho
      simp only [fT_length]
      refine Ok.some_iff.2 ⟨?_, fun hc => ?_⟩
      · show (((cE l l.length : Nat) : Int) == (n : Int)) = true ↔ _
        rw [beq_iff_eq]
        exact ⟨fun h => ⟨h1, by omega⟩, fun h => by have := h.2; omega⟩
      · show fT (cE l l.length) _ = _
        rw [hc.2]
    · obtain ⟨h1, rfl⟩ := h
      exact Ok.some_iff.2 ⟨⟨fun h => (by cases h), fun h => absurd h h1⟩, fun h => absurd h h1⟩
/-- The rows of a front are its columns and greater vertices, ascending: at place i. -/
def ShapeI (n : Nat) (x : FrT) (i : Nat) : Prop := ∀ h : i < x.2.2.1.length, (i < (x.2.1 - x.1).toNat → x.2.2.1[i] = x.1 + (i : Int)) ∧ ((x.2.1 - x.1).toNat ≤ i → x.2.1 ≤ x.2.2.1[i] ∧ x.2.2.1[i] < (n : Int) ∧ x.2.2.1[i - 1] < x.2.2.1[i])
def ShapeK (n : Nat) (x : FrT) : Prop := (x.2.1 - x.1).toNat ≤ x.2.2.1.length ∧ ∀ i, 0 ≤ i → i < x.2.2.1.length → ShapeI n x i
theorem shaped_eq {n : Nat} {x : FrT} (h0 : 0 ≤ x.1) (h1 : x.1 < x.2.1) (h2 : x.2.1 ≤ (n : Int)) (hn : n ≤ 200) (hl : x.2.2.1.length < 4611686018427387904) :
    d_supernode_shaped (x, (n : Int), ()) = some ((open Classical in decide (ShapeK n x)), ()) := by
  classical
  obtain ⟨own, ho⟩ : ∃ own : Nat, x.2.1 - x.1 = (own : Int) := ⟨(x.2.1 - x.1).toNat, by omega⟩
  have hon : (x.2.1 - x.1).toNat = own := by omega
  unfold d_supernode_shaped
  simp only [ho, wrapN (show own < 9223372036854775808 by omega), cond_dec]
  by_cases c1 : own ≤ x.2.2.1.length
  · rw [if_neg (by omega)]
    refine bind_eq (loop_all (τ := Unit) x.2.2.1.length (ShapeI n x) () (.inl ()) (.inr (false, ())) 0 rfl (Nat.zero_le _) ?_ ?_) ?_
    · intro i _ hi _
      have hg := getN_some (List.getElem?_eq_getElem hi)
      rw [if_pos (by omega), hg]
      simp only [Option.bind_some, cond_dec_beq, bneI]
      by_cases c2 : i < own
      · rw [if_pos (by omega), wrap64 (by omega) (by omega)]
        simp only [Option.bind_some]
        by_cases c3 : x.2.2.1[i] = x.1 + (i : Int)
        · have : ShapeI n x i := fun _ => ⟨fun _ => c3, fun h => by omega⟩
          rw [if_pos this, decT c3]
          simp (disch := omega) only [Bool.not_true, cond_false, if_neg, Option.bind_some, wrap_inc]
        · have : ¬ ShapeI n x i := fun h => c3 ((h hi).1 (by omega))
          rw [if_neg this, decF c3]
          rfl
      · rw [if_neg (by omega)]
        simp only [Option.bind_some, cond_false]
        rw [if_pos (by omega)]
        simp only [cond_dec_beqF]
        have hw : getI x.2.2.1 (IntKind.i64.wrap ((i : Int) - 1)) = some (x.2.2.1[i - 1]'(by omega)) := by
          rw [wrap_pred (by omega) (by omega)]
          exact getN_some (List.getElem?_eq_getElem (by omega))
        by_cases c3 : x.2.2.1[i] < x.2.1
        · have : ¬ ShapeI n x i := fun h => by have := ((h hi).2 (by omega)).1; omega
          rw [if_neg this, if_pos c3]; rfl
        · rw [if_neg c3]
          by_cases c4 : x.2.2.1[i] ≥ (n : Int)
          · have : ¬ ShapeI n x i := fun h => by have := ((h hi).2 (by omega)).2.1; omega
            rw [if_neg this, if_pos c4]; rfl
          · rw [if_neg c4, hw]
            simp only [Option.bind_some]
            by_cases c5 : x.2.2.1[i] ≤ x.2.2.1[i - 1]
            · have : ¬ ShapeI n x i := fun h => by have := ((h hi).2 (by omega)).2.2; omega
              rw [if_neg this, if_pos c5]; rfl
            · have : ShapeI n x i := fun _ => ⟨fun h => by omega, fun _ => ⟨by omega, by omega, by omega⟩⟩
              rw [if_pos this, if_neg c5]
              simp (disch := omega) only [Option.bind_some, wrap_inc]
    · intro _
      rw [if_neg (by omega)]
    · by_cases hp : ∀ i, 0 ≤ i → i < x.2.2.1.length → ShapeI n x i
      · rw [if_pos hp, decT (show ShapeK n x from ⟨by omega, hp⟩)]
      · rw [if_neg hp, decF (show ¬ ShapeK n x from fun h => hp h.2)]
  · rw [if_pos (by omega), decF (show ¬ ShapeK n x from fun h => by have := h.1; omega)]
/-- The rows of front p. -/
def rowsOf (l : List FrT) (p : Int) : List Int := ((l[p.toNat]?).map fun (x : FrT) => x.2.2.1).getD []
/-- The parent of a front is right and has the rows that it must have. -/
def LinkK (l : List FrT) (x : FrT) : Prop :=
  (x.2.2.1.length = (x.2.1 - x.1).toNat ∧ x.2.2.2.1 = -1) ∨
  (∃ h : (x.2.1 - x.1).toNat < x.2.2.1.length, x.2.2.2.1 = lastLe (cE l) (x.2.2.1[(x.2.1 - x.1).toNat]).toNat l.length ∧ ∀ i, (x.2.1 - x.1).toNat ≤ i → (hi : i < x.2.2.1.length) → x.2.2.1[i] ∈ rowsOf l x.2.2.2.1)
theorem ShapeK.asc {n : Nat} {x : FrT} (h0 : 0 ≤ x.1) (h1 : x.1 < x.2.1) (h : ShapeK n x) : x.2.2.1.Pairwise (· < ·) := by
  rw [pairwise_iff]
  intro k hk
  have q1 := h.2 k (Nat.zero_le _) (by omega) (by omega)
  have q2 := h.2 (k + 1) (Nat.zero_le _) hk hk
  rcases Nat.lt_or_ge (k + 1) (x.2.1 - x.1).toNat with c | c
  · have := q1.1 (by omega)
    have := q2.1 c
    omega
  · have := (q2.2 c).2.2
    simpa using this
theorem rowsOf_get {l : List FrT} {p : Nat} (h : p < l.length) : rowsOf l (p : Int) = l[p].2.2.1 := by
  unfold rowsOf
  rw [Int.toNat_natCast, List.getElem?_eq_getElem h]; rfl
theorem BS_eq {l : List Int} {v : Int} (hl : l.length < 4611686018427387904) (hp : l.Pairwise (· < ·)) : ∃ i, d_slices_BinarySearch_int_int (l, v, ()) = some (i, decide (v ∈ l), ()) := by
  obtain ⟨⟨i, b, ⟨⟩⟩, h1, h2⟩ := BinarySearch_eq l v hl hp
  simp only at h2
  exact ⟨i, by rw [h1, h2]⟩
theorem linked_eq {n : Nat} {l : List FrT} (hn : n ≤ 200) (hCO : CO n l) (hlen : ∀ y ∈ l, y.2.2.1.length < 4611686018427387904) (hS : ∀ k, (h : k < l.length) → ShapeK n l[k]) {k : Nat} (hk : k < l.length) :
    d_supernode_linked (l, fT n (fun v => lastLe (cE l) v l.length), l[k], ()) = some ((open Classical in decide (LinkK l l[k])), ()) := by
  classical
  have hCk := (hCO.1 k hk).at hk
  have hSk := hS k hk
  have hlk := hlen _ (List.getElem_mem hk)
  generalize hx : l[k] = x at hCk hSk hlk
  obtain ⟨c1, c2, c3, c4⟩ := hCk
  obtain ⟨own, ho⟩ : ∃ own : Nat, x.2.1 - x.1 = (own : Int) := ⟨(x.2.1 - x.1).toNat, by omega⟩
  have hon : (x.2.1 - x.1).toNat = own := by omega
  have hol := hSk.1
  rw [hon] at hol
  unfold d_supernode_linked
  simp (disch := omega) only [ho, wrapN (show own < 9223372036854775808 by omega), natO_ok, Option.bind_some, leO_ok, Option.map_some, List.take_length, List.length_drop, cond_dec, beqI, bneI]
  by_cases h1 : x.2.2.1.length = own
  · rw [if_pos (by omega)]
    have : decide (x.2.2.2.1 = -1) = decide (LinkK l x) := by
      rw [decide_eq_decide]
      unfold LinkK
      rw [hon]
      constructor
      · intro h; exact .inl ⟨h1, h⟩
      · rintro (h | ⟨h, _⟩)
        · exact h.2
        · omega
    rw [this]
  · have h2 : own < x.2.2.1.length := by omega
    have hsh := (hSk.2 own (Nat.zero_le _) h2 h2).2 (by omega)
    obtain ⟨w, hw⟩ : ∃ w : Nat, x.2.2.1[own] = (w : Int) := ⟨(x.2.2.1[own]).toNat, by omega⟩
    have hwn : w < n := by omega
    have g0 : getI (x.2.2.1.drop own) 0 = some (w : Int) := by
      have : (x.2.2.1.drop own)[0]? = some (w : Int) := by rw [List.getElem?_drop, Nat.add_zero, List.getElem?_eq_getElem h2, hw]
      exact getN_some (i := 0) this
    rw [if_neg (by omega)]
    simp (disch := omega) only [g0, Option.bind_some, getI_fT]
    obtain ⟨p, hp1, hp2, hp3⟩ := cE_cover hCO hwn
    have hlast : lastLe (cE l) w l.length = (p : Int) := cE_lastLe (m := l.length) (fun k hk => ⟨hk, hCO.1 k hk⟩) hp1 hp2 hp3 l.length hp1 (Nat.le_refl _)
    rw [hlast]
    have hLK : LinkK l x ↔ x.2.2.2.1 = (p : Int) ∧ ∀ i, 0 ≤ i → i < x.2.2.1.length - own → (x.2.2.1.getD (own + i) 0) ∈ l[p].2.2.1 := by
      unfold LinkK
      rw [hon]
      constructor
      · rintro (h | ⟨h, g1, g2⟩)
        · omega
        · rw [hw, Int.toNat_natCast, hlast] at g1
          refine ⟨g1, fun i _ hi => ?_⟩
          have := g2 (own + i) (by omega) (by omega)
          rw [g1, rowsOf_get hp1] at this
          simp only [List.getD, List.getElem?_eq_getElem (show own + i < x.2.2.1.length by omega), Option.getD_some]
          exact this
      · rintro ⟨g1, g2⟩
        refine .inr ⟨h2, by rw [hw, Int.toNat_natCast, hlast, g1], fun i h3 h4 => ?_⟩
        rw [g1, rowsOf_get hp1]
        have := g2 (i - own) (Nat.zero_le _) (by omega)
        have e : own + (i - own) = i := by omega
        rw [e] at this
        simp only [List.getD, List.getElem?_eq_getElem h4, Option.getD_some] at this
        exact this
    by_cases h3 : x.2.2.2.1 = (p : Int)
    · simp only [h3, decide_true, Bool.not_true, cond_false]
      have hasc : l[p].2.2.1.Pairwise (· < ·) := by
        have := (hCO.1 p hp1).at hp1
        exact (hS p hp1).asc (by omega) (by omega)
      have hpl := hlen _ (List.getElem_mem hp1)
      refine bind_eq (loop_all (τ := Unit) (x.2.2.1.length - own) (fun i => (x.2.2.1.getD (own + i) 0) ∈ l[p].2.2.1) () (.inl ()) (.inr (false, ())) 0 rfl (Nat.zero_le _) ?_ ?_) ?_
      · intro i _ hi _
        have g1 : getI (x.2.2.1.drop own) (i : Int) = some (x.2.2.1.getD (own + i) 0) := by
          refine getN_some ?_
          rw [List.getElem?_drop]
          simp only [List.getD, List.getElem?_eq_getElem (show own + i < x.2.2.1.length by omega), Option.getD_some]
        have g2 : getI l (p : Int) = some l[p] := getN_some (List.getElem?_eq_getElem hp1)
        obtain ⟨bi, hb⟩ := BS_eq (v := x.2.2.1.getD (own + i) 0) hpl hasc
        rw [if_pos (by omega), g1, g2]
        simp only [Option.bind_some, hb]
        by_cases hm : x.2.2.1.getD (own + i) 0 ∈ l[p].2.2.1
        · simp (disch := omega) only [hm, decide_true, Bool.not_true, cond_false, if_true, wrap_inc]
        · simp only [hm, decide_false, Bool.not_false, cond_true, if_false]
      · intro _
        rw [if_neg (by omega)]
      · by_cases hp : ∀ i, 0 ≤ i → i < x.2.2.1.length - own → (x.2.2.1.getD (own + i) 0) ∈ l[p].2.2.1
        · rw [if_pos hp, decT (hLK.2 ⟨h3, hp⟩)]
        · rw [if_neg hp, decF (fun h => hp (hLK.1 h).2)]
    · simp only [decF h3, Bool.not_false, cond_true, decF (show ¬ LinkK l x from fun h => h3 (hLK.1 h).1)]
end Go.Fw
end

section
set_option linter.unusedSimpArgs false
set_option linter.unusedVariables false
namespace Go.Fw
theorem contains0 {n : Nat} {l : List FrT} (hn : n ≤ 200) (hl : l.length < 4611686018427387904) (hCO : CO n l) (hlen : ∀ y ∈ l, y.2.2.1.length < 4611686018427387904) :
    d_slices_ContainsFunc_api_Front_api_Front_q0 (l, (some (n : Int), ()), ()) = some ((open Classical in decide (¬ ∀ k, (h : k < l.length) → ShapeK n l[k])), ()) := by
  classical
  rw [← Ok.eq_iff]
  unfold d_slices_ContainsFunc_api_Front_api_Front_q0
  refine Ok.bind_of (P := fun q => 0 ≤ q.1 ↔ ¬ ∀ k, (h : k < l.length) → ShapeK n l[k]) ?_ ?_
  · unfold d_slices_IndexFunc_api_Front_api_Front_q0
    refine Ok.bind_of (loop_index l.length (fun k => ∀ h : k < l.length, ShapeK n l[k]) ?_ ?_) ?_
    · intro k hk
      have hg := getN_some (List.getElem?_eq_getElem hk)
      obtain ⟨c1, c2, c3, c4⟩ := (hCO.1 k hk).at hk
      have hs := shaped_eq (n := n) (x := l[k]) (by omega) (by omega) (by omega) hn (hlen _ (List.getElem_mem hk))
      simp (disch := omega) only [cond_dec, if_pos, hg, Option.bind_some, d_supernode_Check_1q_q0, hs]
      by_cases h : ShapeK n l[k]
      · simp (disch := omega) only [h, decide_true, Bool.not_true, cond_false, hk, forall_const, if_true, wrap_inc]
      · simp only [h, decide_false, Bool.not_false, cond_true, hk, forall_const, if_false]
    · simp (disch := omega) only [cond_dec, if_neg]
    · rintro (⟨⟩ | ⟨r, ⟨⟩⟩) h
      · exact Ok.some_iff.2 ⟨fun h' => by omega, fun h' => absurd (fun k hk => h k hk hk) h'⟩
      · exact Ok.some_iff.2 ⟨fun _ h' => h.2 (fun i _ hi => h' i hi), fun _ => h.1⟩
  · rintro ⟨r, ⟨⟩⟩ h
    simp only at h
    refine Ok.some_iff.2 ?_
    simp only [ge_iff_le, h]
theorem contains1 {n : Nat} {l : List FrT} (hn : n ≤ 200) (hl : l.length < 4611686018427387904) (hCO : CO n l) (hlen : ∀ y ∈ l, y.2.2.1.length < 4611686018427387904) (hS : ∀ k, (h : k < l.length) → ShapeK n l[k]) :
    d_slices_ContainsFunc_api_Front_api_Front_q1 (l, (some l, some (fT n (fun v => lastLe (cE l) v l.length)), ()), ()) = some ((open Classical in decide (¬ ∀ k, (h : k < l.length) → LinkK l l[k])), ()) := by
  classical
  rw [← Ok.eq_iff]
  unfold d_slices_ContainsFunc_api_Front_api_Front_q1
  refine Ok.bind_of (P := fun q => 0 ≤ q.1 ↔ ¬ ∀ k, (h : k < l.length) → LinkK l l[k]) ?_ ?_
  · unfold d_slices_IndexFunc_api_Front_api_Front_q1
    refine Ok.bind_of (loop_index l.length (fun k => ∀ h : k < l.length, LinkK l l[k]) ?_ ?_) ?_
    · intro k hk
      have hg := getN_some (List.getElem?_eq_getElem hk)
      have hs := linked_eq hn hCO hlen hS hk
      simp (disch := omega) only [cond_dec, if_pos, hg, Option.bind_some, d_supernode_Check_2q_q0, hs]
      by_cases h : LinkK l l[k]
      · simp (disch := omega) only [h, decide_true, Bool.not_true, cond_false, hk, forall_const, if_true, wrap_inc]
      · simp only [h, decide_false, Bool.not_false, cond_true, hk, forall_const, if_false]
    · simp (disch := omega) only [cond_dec, if_neg]
    · rintro (⟨⟩ | ⟨r, ⟨⟩⟩) h
      · exact Ok.some_iff.2 ⟨fun h' => by omega, fun h' => absurd (fun k hk => h k hk hk) h'⟩
      · exact Ok.some_iff.2 ⟨fun _ h' => h.2 (fun i _ hi => h' i hi), fun _ => h.1⟩
  · rintro ⟨r, ⟨⟩⟩ h
    simp only at h
    refine Ok.some_iff.2 ?_
    simp only [ge_iff_le, h]
/-- Each edge lies in the rows of the front of its lesser vertex. -/
def EdgeK (adj : List (List Int)) (l : List FrT) (j i : Nat) : Prop := j < i → (i : Int) ∈ rowsOf l (lastLe (cE l) j l.length)
/-- May l serve as fronts of the graph? -/
def FrOk (adj : List (List Int)) (l : List FrT) : Prop := CO adj.length l ∧ (∀ k, (h : k < l.length) → ShapeK adj.length l[k]) ∧ (∀ k, (h : k < l.length) → LinkK l l[k]) ∧ ∀ j i, Nb adj j i → EdgeK adj l j i
noncomputable def fcV (adj : List (List Int)) (l : List FrT) : Int := if chk adj ≠ 0 then chk adj else (open Classical in if FrOk adj l then 0 else 211)
section
variable {adj : List (List Int)} (hV : Valid adj) (hn : adj.length ≤ 200) {l : List FrT} (hl : l.length < 4611686018427387904) (hlen : ∀ y ∈ l, y.2.2.1.length < 4611686018427387904)
include hV hn hl hlen
/-- The edges, as the program looks at them. -/
theorem fcheck_ok : d_supernode_Check ((adj, ()), l, ()) = some ((open Classical in if FrOk adj l then 0 else 211), ()) := by
  classical
  have hc := hV.hc hn
  unfold d_supernode_Check
  simp only [Check_eq adj hc, chk_zero.2 ⟨hn, hV⟩, Option.bind_some, bneI, decide_true, Bool.not_true, cond_false]
  obtain ⟨⟨of, ok, ⟨⟩⟩, h1, h2, h3⟩ := columns_eq l hn hl
  simp only at h2 h3
  simp only [h1, Option.bind_some, cond_dec_beqF]
  by_cases hCO : CO adj.length l
  · have hok := h2.2 hCO
    have hof := h3 hCO
    subst hok hof
    simp only [Bool.not_true, show (false == false) = true from rfl, cond_true, contains0 hn hl hCO hlen, Option.bind_some]
    by_cases hS : ∀ k, (h : k < l.length) → ShapeK adj.length l[k]
    · simp only [hS, implies_true, not_true_eq_false, decide_false, cond_false, Option.bind_some, contains1 hn hl hCO hlen hS]
      by_cases hL : ∀ k, (h : k < l.length) → LinkK l l[k]
      · simp only [hL, implies_true, not_true_eq_false, decide_false, cond_false]
        have hiff : FrOk adj l ↔ ∀ i, 0 ≤ i → i < adj.length → ∀ h : i < adj.length, ∀ k, 0 ≤ k → k < adj[i].length → ∀ hk : k < adj[i].length, adj[i][k] ≤ (i : Int) → (i : Int) ∈ rowsOf l (lastLe (cE l) adj[i][k].toNat l.length) := by
          constructor
          · rintro ⟨_, _, _, hE⟩ i _ _ h k _ _ hk hle
            have hr := (hV.asc i h).2 _ (List.getElem_mem hk)
            obtain ⟨j, hj⟩ : ∃ j : Nat, adj[i][k] = (j : Int) := ⟨adj[i][k].toNat, by omega⟩
            have hnb : Nb adj i j := ⟨h, hj ▸ List.getElem_mem hk⟩
            have hne := hnb.ne hV
            rw [hj, Int.toNat_natCast]
            exact hE j i (Nb.symm hV _ _ hnb) (by omega)
          · intro h
            refine ⟨hCO, hS, hL, fun j i hnb hji => ?_⟩
            have hs := Nb.symm hV _ _ hnb
            obtain ⟨k, hk, e⟩ := List.mem_iff_getElem.1 hs.2
            have := h i (Nat.zero_le _) hs.1 hs.1 k (Nat.zero_le _) hk hk (by omega)
            rw [e, Int.toNat_natCast] at this
            exact this
        rw [show (if FrOk adj l then (0 : Int) else 211) = if (∀ i, 0 ≤ i → i < adj.length → ∀ h : i < adj.length, ∀ k, 0 ≤ k → k < adj[i].length → ∀ hk : k < adj[i].length, adj[i][k] ≤ (i : Int) → (i : Int) ∈ rowsOf l (lastLe (cE l) adj[i][k].toNat l.length)) then 0 else 211 from by simp only [hiff]]
        refine bind_eq (loop_all (τ := List Int × Unit) adj.length (fun i => ∀ h : i < adj.length, ∀ k, 0 ≤ k → k < adj[i].length → ∀ hk : k < adj[i].length, adj[i][k] ≤ (i : Int) → (i : Int) ∈ rowsOf l (lastLe (cE l) adj[i][k].toNat l.length)) (fT adj.length (fun v => lastLe (cE l) v l.length), ()) (.inl ()) (.inr (211, ())) 0 rfl (Nat.zero_le _) ?_ ?_) ?_
        · intro i _ hi _
          have hg := getN_some (List.getElem?_eq_getElem hi)
          have hri := hV.rows _ (List.getElem_mem hi)
          simp (disch := omega) only [cond_dec, if_pos, hg, Option.bind_some]
          refine bind_eq (loop_all (τ := List Int × Unit) adj[i].length (fun k => ∀ hk : k < adj[i].length, adj[i][k] ≤ (i : Int) → (i : Int) ∈ rowsOf l (lastLe (cE l) adj[i][k].toNat l.length)) (fT adj.length (fun v => lastLe (cE l) v l.length), ()) (.inl (fT adj.length (fun v => lastLe (cE l) v l.length), ())) (.inr (.inr (.inr (211, ())))) 0 rfl (Nat.zero_le _) ?_ ?_) ?_
          · intro k _ hk _
            have hgk := getN_some (List.getElem?_eq_getElem hk)
            have hr := (hV.asc i hi).2 _ (List.getElem_mem hk)
            obtain ⟨j, hj⟩ : ∃ j : Nat, adj[i][k] = (j : Int) := ⟨adj[i][k].toNat, by omega⟩
            simp (disch := omega) only [if_pos, hgk, Option.bind_some, hj, hk, forall_const, Int.toNat_natCast]
            by_cases c1 : (j : Int) > (i : Int)
            · have : (j : Int) ≤ (i : Int) → (i : Int) ∈ rowsOf l (lastLe (cE l) j l.length) := fun h => by omega
              rw [if_pos c1, if_pos this]
              simp (disch := omega) only [Option.bind_some, wrap_inc]
            · obtain ⟨p, hp1, hp2, hp3⟩ := cE_cover hCO (show j < adj.length by omega)
              have hlast : lastLe (cE l) j l.length = (p : Int) := cE_lastLe (m := l.length) (fun k hk => ⟨hk, hCO.1 k hk⟩) hp1 hp2 hp3 l.length hp1 (Nat.le_refl _)
              have g2 : getI l (p : Int) = some l[p] := getN_some (List.getElem?_eq_getElem hp1)
              have hasc : l[p].2.2.1.Pairwise (· < ·) := by
                have := (hCO.1 p hp1).at hp1
                exact (hS p hp1).asc (by omega) (by omega)
              obtain ⟨bi, hb⟩ := BS_eq (v := (i : Int)) (hlen _ (List.getElem_mem hp1)) hasc
              rw [if_neg c1]
              simp (disch := omega) only [getI_fT, Option.bind_some, hlast, g2, hb, rowsOf_get hp1]
              have hle : (j : Int) ≤ (i : Int) := by omega
              by_cases hm : (i : Int) ∈ l[p].2.2.1
              · simp (disch := omega) only [hm, decide_true, Bool.not_true, cond_false, Option.bind_some, implies_true, if_true, wrap_inc]
              · simp (disch := omega) only [hm, hle, decide_false, Bool.not_false, cond_true, Option.bind_some, forall_const, if_false]
          · intro _
            simp (disch := omega) only [if_neg]
          · have e : (∀ h : i < adj.length, ∀ k, 0 ≤ k → k < adj[i].length → ∀ hk : k < adj[i].length, adj[i][k] ≤ (i : Int) → (i : Int) ∈ rowsOf l (lastLe (cE l) adj[i][k].toNat l.length)) ↔ (∀ k, 0 ≤ k → k < adj[i].length → ∀ hk : k < adj[i].length, adj[i][k] ≤ (i : Int) → (i : Int) ∈ rowsOf l (lastLe (cE l) adj[i][k].toNat l.length)) := ⟨fun H => H hi, fun H _ => H⟩
            by_cases hp : ∀ k, 0 ≤ k → k < adj[i].length → ∀ hk : k < adj[i].length, adj[i][k] ≤ (i : Int) → (i : Int) ∈ rowsOf l (lastLe (cE l) adj[i][k].toNat l.length)
            · simp (disch := omega) only [if_pos hp, if_pos (e.2 hp), wrap_inc]
            · simp only [if_neg hp, if_neg (fun h => hp (e.1 h))]
        · intro _
          simp (disch := omega) only [cond_dec, if_neg]
        · by_cases hq : FrOk adj l
          · simp only [if_pos (hiff.1 hq)]
          · simp only [if_neg (fun h => hq (hiff.2 h))]
      · have : ¬ FrOk adj l := fun h => hL h.2.2.1
        simp only [hL, not_false_eq_true, decide_true, cond_true, if_neg this]
    · have : ¬ FrOk adj l := fun h => hS h.2.1
      simp only [hS, not_false_eq_true, decide_true, cond_true, if_neg this, Option.bind_some]
  · have hok : ok = false := by
      cases ok
      · rfl
      · exact absurd (h2.1 rfl) hCO
    have : ¬ FrOk adj l := fun h => hCO h.1
    simp only [hok, Bool.not_false, show (true == false) = false from rfl, cond_false, if_neg this, Option.bind_some]
end
/-- The rows of a front, as the reference looks at them. -/
theorem shape_iff {n : Nat} {x : FrT} (h0 : 0 ≤ x.1) (h1 : x.1 < x.2.1) (hxn : x.2.1 ≤ (n : Int)) : ShapeK n x ↔ x.2.2.1.Pairwise (· < ·) ∧ ∃ (h : (x.2.1 - x.1).toNat ≤ x.2.2.1.length), x.2.2.1[0]'(by omega) = x.1 ∧ x.2.2.1[(x.2.1 - x.1).toNat - 1]'(by omega) = x.2.1 - 1 ∧ x.2.2.1[x.2.2.1.length - 1]'(by omega) < (n : Int) := by
  obtain ⟨own, ho⟩ : ∃ own : Nat, x.2.1 - x.1 = (own : Int) := ⟨(x.2.1 - x.1).toNat, by omega⟩
  have hon : (x.2.1 - x.1).toNat = own := by omega
  constructor
  · intro h
    refine ⟨h.asc h0 h1, h.1, ?_, ?_, ?_⟩
    · have := (h.2 0 (Nat.zero_le _) (by have := h.1; omega) (by have := h.1; omega)).1 (by omega)
      omega
    · have := (h.2 ((x.2.1 - x.1).toNat - 1) (Nat.zero_le _) (by have := h.1; omega) (by have := h.1; omega)).1 (by omega)
      omega
    · have hl := h.1
      have hlast := h.2 (x.2.2.1.length - 1) (Nat.zero_le _) (by omega) (by omega)
      rcases Nat.lt_or_ge (x.2.2.1.length - 1) (x.2.1 - x.1).toNat with c | c
      · have q := hlast.1 c
        omega
      · exact (hlast.2 c).2.1
  · rintro ⟨hp, hl, h2, h3, h4⟩
    have hm : ∀ i j, (hi : i < x.2.2.1.length) → (hj : j < x.2.2.1.length) → i < j → x.2.2.1[i] < x.2.2.1[j] := fun i j hi hj hij => (List.pairwise_iff_getElem.1 hp) i j hi hj hij
    have hup : ∀ d i, (hi : i + d < x.2.2.1.length) → x.2.2.1[i] + (d : Int) ≤ x.2.2.1[i + d] := by
      intro d
      induction d with
      | zero => intro i hi; simp
      | succ d ih =>
        intro i hi
        have q1 := ih i (by omega)
        have q2 := hm (i + d) (i + (d + 1)) (by omega) hi (by omega)
        omega
    refine ⟨hl, fun i _ _ hi => ⟨fun c => ?_, fun c => ⟨?_, ?_, ?_⟩⟩⟩
    · have q1 := hup i 0 (by omega)
      have q2 := hup ((x.2.1 - x.1).toNat - 1 - i) i (by omega)
      have e : i + ((x.2.1 - x.1).toNat - 1 - i) = (x.2.1 - x.1).toNat - 1 := by omega
      simp only [e, Nat.zero_add] at q1 q2
      omega
    · have q := hm ((x.2.1 - x.1).toNat - 1) i (by omega) hi (by omega)
      omega
    · rcases Nat.lt_or_ge i (x.2.2.1.length - 1) with c2 | c2
      · have := hm i (x.2.2.1.length - 1) hi (by omega) c2; omega
      · have e : i = x.2.2.1.length - 1 := by omega
        subst e; exact h4
    · exact hm (i - 1) i (by omega) hi (by omega)
section
variable {adj : List (List Int)} (hV : Valid adj) (hn : adj.length ≤ 200) {l : List FrT} (hl : l.length < 4611686018427387904) (hlen : ∀ y ∈ l, y.2.2.1.length < 4611686018427387904)
theorem holder_eq {n : Nat} (hCO : CO n l) (hl : l.length < 4611686018427387904) {v p : Nat} (hp : p < l.length) (h1 : cE l p ≤ v) (h2 : v < cE l (p + 1)) : d_sparseref21q_holder (l, (v : Int), ()) = some ((p : Int), ()) := by
  unfold d_sparseref21q_holder
  rw [← Ok.eq_iff]
  refine Ok.bind_of (P := fun q => q = .inr ((p : Int), ())) ?_ (by rintro _ rfl; exact Ok.some_iff.2 rfl)
  refine Ok.for (p + 1) (fun k _ => k ≤ p) (i0 := 0) rfl (Nat.zero_le _) (Nat.zero_le _) ?_ ?_
  · rintro k ⟨⟩ _ hk _
    have hkl : k < l.length := by omega
    have hgk := getN_some (List.getElem?_eq_getElem hkl)
    obtain ⟨c1, c2, c3, c4⟩ := (hCO.1 k hkl).at hkl
    simp (disch := omega) only [cond_dec, if_pos, hgk, Option.bind_some, cond_dec_beq]
    rcases Nat.lt_or_ge k p with h | h
    · have := cE_mono (m := l.length) (fun k hk => ⟨hk, hCO.1 k hk⟩) (k + 1) p (by omega) (by omega)
      rw [if_pos (by omega), decF (by omega)]
      simp only [Option.bind_some, cond_false]
      exact Ok.some_iff.2 ⟨wrap_inc (by omega), by omega⟩
    · obtain rfl : k = p := by omega
      rw [if_pos (by omega), decT (by omega)]
      exact Ok.some_iff.2 rfl
  · rintro ⟨⟩ h
    omega
include hV hn hl hlen
theorem refFcheck_ok : d_sparseref21q_Check ((adj, ()), l, ()) = some ((open Classical in if FrOk adj l then 0 else 211), ()) := by
  classical
  have hc := hV.hc hn
  unfold d_sparseref21q_Check
  simp only [refCheck_eq adj hc, chk_zero.2 ⟨hn, hV⟩, Option.bind_some, bneI, decide_true, Bool.not_true, cond_false]
  rw [← Ok.eq_iff]
  refine Ok.bind_of (P := fun q => match q with | .inl r => (∀ k, k < l.length → ColK adj.length l k) ∧ r.1 = (cE l l.length : Int) | .inr r => ¬ CO adj.length l ∧ r = (211, ())) ?_ ?_
  · refine Ok.count (fun s => s.2.1) l.length (fun k s => (∀ i, i < k → i < l.length → ColK adj.length l i) ∧ s.1 = (cE l k : Int)) (i0 := 0) rfl ⟨fun i h => by omega, rfl⟩ (Nat.zero_le _) ?_ ?_
    · rintro k ⟨at_, k', ⟨⟩⟩ _ hk e ⟨hI, ho⟩
      simp only at e ho
      subst e ho
      have hgk := getN_some (List.getElem?_eq_getElem hk)
      have hbad : ¬ (l[k].1 = (cE l k : Int) ∧ (cE l k : Int) < l[k].2.1 ∧ l[k].2.1 ≤ (adj.length : Int)) → ¬ CO adj.length l := fun h hc => by
        obtain ⟨x, h1, h2⟩ := hc.1 k hk
        rw [List.getElem?_eq_getElem hk] at h1
        simp only [Option.some.injEq] at h1
        subst h1
        exact h h2
      simp (disch := omega) only [cond_dec, if_pos, hgk, Option.bind_some]
      by_cases c1 : l[k].1 = (cE l k : Int)
      · simp only [decT c1, Bool.not_true, show (false == false) = true from rfl, cond_true, cond_dec_beqF]
        by_cases c2 : l[k].2.1 ≤ (cE l k : Int)
        · rw [if_pos c2]
          exact Ok.some_iff.2 ⟨hbad (fun h => by omega), rfl⟩
        · rw [if_neg c2]
          by_cases c3 : l[k].2.1 > (adj.length : Int)
          · rw [if_pos c3]
            exact Ok.some_iff.2 ⟨hbad (fun h => by omega), rfl⟩
          · rw [if_neg c3]
            have hK : ColK adj.length l k := ⟨l[k], List.getElem?_eq_getElem hk, c1, by omega, by omega⟩
            obtain ⟨h1, h2, h3, h4⟩ := hK.at hk
            refine Ok.some_iff.2 ⟨wrap_inc (by omega), fun i hi h => ?_, h2⟩
            rcases Nat.lt_or_ge i k with h5 | h5
            · exact hI i h5 h
            · obtain rfl : i = k := by omega
              exact hK
      · simp only [decF c1, Bool.not_false, show (true == false) = false from rfl, cond_false, Option.bind_some]
        exact Ok.some_iff.2 ⟨hbad (fun h => c1 h.1), rfl⟩
    · rintro ⟨at_, k', ⟨⟩⟩ e ⟨hI, ho⟩
      simp only at e ho
      subst e ho
      simp (disch := omega) only [cond_dec, if_neg]
      exact Ok.some_iff.2 ⟨fun k hk => hI k hk hk, rfl⟩
  · rintro (⟨at_, ⟨⟩⟩ | r) h
    rotate_left
    · obtain ⟨h1, rfl⟩ := h
      exact Ok.some_iff.2 (by rw [if_neg (fun h => h1 h.1)])
    obtain ⟨hI, ho⟩ := h
    simp only at ho
    subst ho
    simp only
    by_cases hat : cE l l.length = adj.length
    rotate_left
    · have : ¬ ((cE l l.length : Int) = (adj.length : Int)) := by omega
      simp only [decF this, Bool.not_false, cond_true]
      exact Ok.some_iff.2 (by rw [if_neg (fun h => hat h.1.2)])
    have hCO : CO adj.length l := ⟨hI, hat⟩
    simp only [hat, decide_true, Bool.not_true, cond_false]
    -- shapes and parents
    refine Ok.bind_of (P := fun q => match q with | .inl _ => (∀ k, (h : k < l.length) → ShapeK adj.length l[k]) ∧ (∀ k, (h : k < l.length) → LinkK l l[k]) | .inr r => ¬ ((∀ k, (h : k < l.length) → ShapeK adj.length l[k]) ∧ (∀ k, (h : k < l.length) → LinkK l l[k])) ∧ r = (211, ())) ?_ ?_
    · refine Ok.of_eq (loop_all (τ := Unit) l.length (fun k => ∀ h : k < l.length, ShapeK adj.length l[k] ∧ LinkK l l[k]) () (.inl ()) (.inr (211, ())) 0 rfl (Nat.zero_le _) ?_ ?_) ?_
      · intro k _ hk _
        have hgk := getN_some (List.getElem?_eq_getElem hk)
        obtain ⟨c1, c2, c3, c4⟩ := (hCO.1 k hk).at hk
        have hlk := hlen _ (List.getElem_mem hk)
        have hsi := shape_iff (n := adj.length) (x := l[k]) (by omega) (by omega) (by omega)
        have hpk : (∀ h : k < l.length, ShapeK adj.length l[k] ∧ LinkK l l[k]) ↔ (ShapeK adj.length l[k] ∧ LinkK l l[k]) := ⟨fun h => h hk, fun h _ => h⟩
        simp (disch := omega) only [cond_dec, if_pos, hgk, Option.bind_some]
        simp only [hpk]
        obtain ⟨own, ho⟩ : ∃ own : Nat, l[k].2.1 - l[k].1 = (own : Int) := ⟨(l[k].2.1 - l[k].1).toNat, by omega⟩
        have hon : (l[k].2.1 - l[k].1).toNat = own := by omega
        have hw1 : IntKind.i64.wrap (l[k].2.1 - 1) = l[k].2.1 - 1 := wrap64 (by omega) (by omega)
        simp (disch := omega) only [ho, wrapN, Ascending_eq _ hlk, Option.bind_some, cond_dec_beqF, hw1]
        by_cases s1 : l[k].2.2.1.Pairwise (· < ·)
        rotate_left
        · have : ¬ (ShapeK adj.length l[k] ∧ LinkK l l[k]) := fun h => s1 (hsi.1 h.1).1
          rw [if_neg this, decF s1]; rfl
        rw [decT s1]
        simp only [Bool.not_true, show (false == false) = true from rfl, cond_true]
        by_cases s2 : own ≤ l[k].2.2.1.length
        rotate_left
        · have : ¬ (ShapeK adj.length l[k] ∧ LinkK l l[k]) := fun h => s2 (by have := h.1.1; omega)
          rw [if_neg this, if_pos (by omega)]; rfl
        rw [if_neg (by omega)]
        have g0 : getI l[k].2.2.1 0 = some (l[k].2.2.1[0]'(by omega)) := getN_some (i := 0) (List.getElem?_eq_getElem (by omega))
        have g1 : getI l[k].2.2.1 (IntKind.i64.wrap ((own : Int) - 1)) = some (l[k].2.2.1[own - 1]'(by omega)) := by
          rw [wrap_pred (by omega) (by omega)]; exact getN_some (List.getElem?_eq_getElem (by omega))
        have g2 : getI l[k].2.2.1 (IntKind.i64.wrap ((l[k].2.2.1.length : Int) - 1)) = some (l[k].2.2.1[l[k].2.2.1.length - 1]'(by omega)) := by
          rw [wrap_pred (by omega) (by omega)]; exact getN_some (List.getElem?_eq_getElem (by omega))
        simp only [hon] at hsi
        simp only [g0, g1, g2, Option.bind_some]
        by_cases s3 : l[k].2.2.1[0]'(by omega) = l[k].1
        rotate_left
        · have : ¬ (ShapeK adj.length l[k] ∧ LinkK l l[k]) := fun h => by obtain ⟨_, _, q, _⟩ := hsi.1 h.1; exact s3 q
          rw [if_neg this, decF s3]; rfl
        rw [decT s3]
        simp only [Bool.not_true, show (false == false) = true from rfl, cond_true]
        by_cases s4 : l[k].2.2.1[own - 1]'(by omega) = l[k].2.1 - 1
        rotate_left
        · have : ¬ (ShapeK adj.length l[k] ∧ LinkK l l[k]) := fun h => by obtain ⟨_, _, _, q, _⟩ := hsi.1 h.1; exact s4 q
          rw [if_neg this, decF s4]; rfl
        rw [decT s4]
        simp only [Bool.not_true, show (false == false) = true from rfl, cond_true]
        by_cases s5 : l[k].2.2.1[l[k].2.2.1.length - 1]'(by omega) ≥ (adj.length : Int)
        · have : ¬ (ShapeK adj.length l[k] ∧ LinkK l l[k]) := fun h => by obtain ⟨_, _, _, _, q⟩ := hsi.1 h.1; omega
          rw [if_neg this, if_pos s5]; rfl
        have hS : ShapeK adj.length l[k] := hsi.2 ⟨s1, s2, s3, s4, by omega⟩
        rw [if_neg s5]
        simp only [Option.bind_some]
        by_cases h1 : l[k].2.2.1.length = own
        · rw [if_neg (by omega)]
          simp only [Option.bind_some]
          by_cases s6 : l[k].2.2.2.1 = -1
          · have hL : LinkK l l[k] := .inl ⟨by omega, s6⟩
            simp only [decT s6, Bool.not_true, cond_false]
            rw [if_pos ⟨hS, hL⟩]
            have : loop (σ := (Int × Unit)) (ρ := (Unit ⊕ (Unit ⊕ ((Int × Unit) ⊕ (Unit ⊕ (Int × Unit)))))) (fun x_1 => if x_1.1 < (l[k].2.2.1.length : Int) then (getI l (-1)).bind fun y27 => (getI l[k].2.2.1 x_1.1).bind fun y28 => (d_sparsekit_In (y27.2.2.1, y28, ())).bind fun z => bif !z.1 then some (.inr (.inr (.inr (.inr (.inr (211, ())))))) else some (.inl (IntKind.i64.wrap (x_1.1 + 1), ())) else some (.inr (.inl ()))) ((own : Int), ()) = some (.inl ()) := by
              rw [loop_iff]
              exact ⟨1, by simp only [loopN]; rw [if_neg (by omega)]⟩
            rw [this]
            simp (disch := omega) only [Option.bind_some, wrap_inc]
          · have hL : ¬ LinkK l l[k] := fun h => by
              rcases h with h | ⟨h, _⟩
              · exact s6 h.2
              · omega
            simp only [decF s6, Bool.not_false, cond_true]
            rw [if_neg (fun h => hL h.2)]; rfl
        · have h2 : own < l[k].2.2.1.length := by omega
          have hsh := (hS.2 own (Nat.zero_le _) h2 h2).2 (by omega)
          obtain ⟨w, hw⟩ : ∃ w : Nat, l[k].2.2.1[own] = (w : Int) := ⟨(l[k].2.2.1[own]).toNat, by omega⟩
          have hwn : w < adj.length := by omega
          have g3 : getI l[k].2.2.1 (own : Int) = some (w : Int) := by rw [← hw]; exact getN_some (List.getElem?_eq_getElem h2)
          obtain ⟨p, hp1, hp2, hp3⟩ := cE_cover hCO hwn
          have hlast : lastLe (cE l) w l.length = (p : Int) := cE_lastLe (m := l.length) (fun k hk => ⟨hk, hCO.1 k hk⟩) hp1 hp2 hp3 l.length hp1 (Nat.le_refl _)
          have g4 : getI l (p : Int) = some l[p] := getN_some (List.getElem?_eq_getElem hp1)
          rw [if_pos (by omega)]
          simp only [g3, Option.bind_some, holder_eq hCO hl hp1 hp2 hp3]
          have hpl := hlen _ (List.getElem_mem hp1)
          by_cases s6 : l[k].2.2.2.1 = (p : Int)
          · have hLK : LinkK l l[k] ↔ ∀ i, own ≤ i → i < l[k].2.2.1.length → l[k].2.2.1.getD i 0 ∈ l[p].2.2.1 := by
              unfold LinkK
              rw [hon]
              constructor
              · rintro (h | ⟨h, q1, q2⟩)
                · omega
                · intro i h3 h4
                  have := q2 i h3 h4
                  rw [s6, rowsOf_get hp1] at this
                  simp only [List.getD, List.getElem?_eq_getElem h4, Option.getD_some]
                  exact this
              · intro h
                refine .inr ⟨h2, by rw [hw, Int.toNat_natCast, hlast, s6], fun i h3 h4 => ?_⟩
                rw [s6, rowsOf_get hp1]
                have := h i h3 h4
                simp only [List.getD, List.getElem?_eq_getElem h4, Option.getD_some] at this
                exact this
            simp only [decT s6, Bool.not_true, cond_false]
            refine bind_eq (y := if LinkK l l[k] then .inl () else .inr (.inr (.inr (211, ())))) ?_ ?_
            · refine bind_eq (loop_all (τ := Unit) l[k].2.2.1.length (fun i => l[k].2.2.1.getD i 0 ∈ l[p].2.2.1) () (.inl ()) (.inr (.inr (.inr (.inr (211, ()))))) own rfl s2 ?_ ?_) ?_
              · intro i h3 h4 _
                have g5 : getI l[k].2.2.1 (i : Int) = some (l[k].2.2.1.getD i 0) := by
                  refine getN_some ?_
                  simp only [List.getD, List.getElem?_eq_getElem h4, Option.getD_some]
                rw [if_pos (by omega), g4, g5]
                simp only [Option.bind_some, In_eq _ _ hpl]
                by_cases hm : l[k].2.2.1.getD i 0 ∈ l[p].2.2.1
                · simp (disch := omega) only [hm, decide_true, Bool.not_true, cond_false, if_true, wrap_inc]
                · simp only [hm, decide_false, Bool.not_false, cond_true, if_false]
              · intro _
                rw [if_neg (by omega)]
              · by_cases hq : LinkK l l[k]
                · simp only [if_pos hq, if_pos (hLK.1 hq)]
                · simp only [if_neg hq, if_neg (fun h => hq (hLK.2 h))]
            · by_cases hq : LinkK l l[k]
              · rw [if_pos hq, if_pos ⟨hS, hq⟩]
                simp (disch := omega) only [wrap_inc]
              · rw [if_neg hq, if_neg (fun h => hq h.2)]
          · have hL : ¬ LinkK l l[k] := fun h => by
              rcases h with h | ⟨h, q1, _⟩
              · omega
              · simp only [hon] at q1
                rw [hw, Int.toNat_natCast, hlast] at q1
                exact s6 q1
            simp only [decF s6, Bool.not_false, cond_true]
            rw [if_neg (fun h => hL h.2)]; rfl
      · intro _
        simp (disch := omega) only [cond_dec, if_neg]
      · by_cases hA : ∀ i, 0 ≤ i → i < l.length → ∀ h : i < l.length, ShapeK adj.length l[i] ∧ LinkK l l[i]
        · rw [if_pos hA]
          exact ⟨fun k h => (hA k (Nat.zero_le _) h h).1, fun k h => (hA k (Nat.zero_le _) h h).2⟩
        · rw [if_neg hA]
          exact ⟨fun h => hA (fun i _ _ hi => ⟨h.1 i hi, h.2 i hi⟩), rfl⟩
    · rintro (⟨⟩ | r) h
      rotate_left
      · obtain ⟨h1, rfl⟩ := h
        exact Ok.some_iff.2 (by rw [if_neg (fun h => h1 ⟨h.2.1, h.2.2.1⟩)])
      obtain ⟨hS, hL⟩ := h
      simp only
      have hiff : FrOk adj l ↔ ∀ j, 0 ≤ j → j < adj.length → ∀ k, 0 ≤ k → k < (adj.getD j []).length → (j : Int) < (adj.getD j []).getD k 0 → (adj.getD j []).getD k 0 ∈ rowsOf l (lastLe (cE l) j l.length) := by
        constructor
        · rintro ⟨_, _, _, hE⟩ j _ h k _ hk hlt
          simp only [List.getD, List.getElem?_eq_getElem h, Option.getD_some] at hk hlt ⊢
          simp only [List.getElem?_eq_getElem hk, Option.getD_some] at hlt ⊢
          have hr := (hV.asc j h).2 _ (List.getElem_mem hk)
          obtain ⟨i, hi⟩ : ∃ i : Nat, adj[j][k] = (i : Int) := ⟨adj[j][k].toNat, by omega⟩
          rw [hi] at hlt ⊢
          exact hE j i ⟨h, hi ▸ List.getElem_mem hk⟩ (by omega)
        · intro h
          refine ⟨hCO, hS, hL, fun j i hnb hji => ?_⟩
          obtain ⟨hj, hm⟩ := hnb
          obtain ⟨k, hk, e⟩ := List.mem_iff_getElem.1 hm
          have := h j (Nat.zero_le _) hj k (Nat.zero_le _)
          simp only [List.getD, List.getElem?_eq_getElem hj, Option.getD_some] at this
          have := this hk
          simp only [List.getElem?_eq_getElem hk, Option.getD_some, e] at this
          exact this (by omega)
      refine Ok.of_eq (y := (if FrOk adj l then (0 : Int) else 211, ())) ?_ rfl
      refine bind_eq (loop_all (τ := Unit) adj.length (fun j => ∀ k, 0 ≤ k → k < (adj.getD j []).length → (j : Int) < (adj.getD j []).getD k 0 → (adj.getD j []).getD k 0 ∈ rowsOf l (lastLe (cE l) j l.length)) () (.inl ()) (.inr (211, ())) 0 rfl (Nat.zero_le _) ?_ ?_) ?_
      · intro j _ hj _
        have hg := getN_some (List.getElem?_eq_getElem hj)
        have hri := hV.rows _ (List.getElem_mem hj)
        have hgd : adj.getD j [] = adj[j] := by simp only [List.getD, List.getElem?_eq_getElem hj, Option.getD_some]
        simp (disch := omega) only [cond_dec, if_pos, hgd]
        obtain ⟨p, hp1, hp2, hp3⟩ := cE_cover hCO hj
        have hlast : lastLe (cE l) j l.length = (p : Int) := cE_lastLe (m := l.length) (fun k hk => ⟨hk, hCO.1 k hk⟩) hp1 hp2 hp3 l.length hp1 (Nat.le_refl _)
        have g4 : getI l (p : Int) = some l[p] := getN_some (List.getElem?_eq_getElem hp1)
        have hpl := hlen _ (List.getElem_mem hp1)
        refine bind_eq (loop_all (τ := Unit) adj[j].length (fun k => (j : Int) < adj[j].getD k 0 → adj[j].getD k 0 ∈ rowsOf l (lastLe (cE l) j l.length)) () (.inl ()) (.inr (.inr (.inr (211, ())))) 0 rfl (Nat.zero_le _) ?_ ?_) ?_
        · intro k _ hk _
          have hgk : getI adj[j] (k : Int) = some (adj[j].getD k 0) := by
            refine getN_some ?_
            simp only [List.getD, List.getElem?_eq_getElem hk, Option.getD_some]
          simp (disch := omega) only [hg, Option.bind_some, if_pos, hgk, cond_dec_beq]
          by_cases c1 : adj[j].getD k 0 > (j : Int)
          · have c1' : (j : Int) < adj[j].getD k 0 := c1
            rw [if_pos c1]
            simp only [holder_eq hCO hl hp1 hp2 hp3, Option.bind_some, g4, In_eq _ _ hpl, hlast, rowsOf_get hp1, c1', forall_const]
            by_cases hm : adj[j].getD k 0 ∈ l[p].2.2.1
            · simp (disch := omega) only [hm, decide_true, Bool.not_true, cond_false, Option.bind_some, if_true, wrap_inc]
            · simp only [hm, decide_false, Bool.not_false, cond_true, Option.bind_some, if_false]
          · have : (j : Int) < adj[j].getD k 0 → adj[j].getD k 0 ∈ rowsOf l (lastLe (cE l) j l.length) := fun h => absurd h c1
            rw [if_neg c1, if_pos this]
            simp (disch := omega) only [Option.bind_some, wrap_inc]
        · intro _
          simp (disch := omega) only [hg, Option.bind_some, if_neg]
        · by_cases hp : ∀ k, 0 ≤ k → k < adj[j].length → (j : Int) < adj[j].getD k 0 → adj[j].getD k 0 ∈ rowsOf l (lastLe (cE l) j l.length)
          · simp (disch := omega) only [if_pos hp, wrap_inc]
          · simp only [if_neg hp]
      · intro _
        simp (disch := omega) only [cond_dec, if_neg]
      · by_cases hq : FrOk adj l
        · simp only [if_pos hq, if_pos (hiff.1 hq)]
        · simp only [if_neg hq, if_neg (fun h => hq (hiff.2 h))]
end
theorem Fcheck_eq {adj : List (List Int)} (hc : ∀ l ∈ adj, l.length < 4611686018427387904) {l : List FrT} (hl : l.length < 4611686018427387904) (hlen : ∀ y ∈ l, y.2.2.1.length < 4611686018427387904) :
    d_supernode_Check ((adj, ()), l, ()) = some (fcV adj l, ()) ∧ d_sparseref21q_Check ((adj, ()), l, ()) = some (fcV adj l, ()) := by
  unfold fcV
  by_cases h : chk adj = 0
  · obtain ⟨hn, hV⟩ := chk_zero.1 h
    rw [if_neg (by simpa using h)]
    exact ⟨fcheck_ok hV hn hl hlen, refFcheck_ok hV hn hl hlen⟩
  · rw [if_pos h]
    constructor
    · unfold d_supernode_Check
      simp only [Check_eq adj hc, Option.bind_some, bneI, decF h, Bool.not_false, cond_true]
    · unfold d_sparseref21q_Check
      simp only [refCheck_eq adj hc, Option.bind_some, bneI, decF h, Bool.not_false, cond_true]
end Go.Fw
end

section
set_option linter.unusedSimpArgs false
set_option linter.unusedVariables false
namespace Go.Fw
theorem kitFronts_eq (a b : List FrT) (ha : a.length < 4611686018427387904) (hr : ∀ x ∈ a, x.2.2.1.length < 4611686018427387904) : d_sparsekit_Fronts (a, b, ()) = some ((open Classical in decide (a = b)), ()) := by
  classical
  unfold d_sparsekit_Fronts
  simp only [bneI]
  by_cases hl : a.length = b.length
  · simp only [hl, decide_true, Bool.not_true, cond_false]
    refine bind_eq (loop_all (τ := Unit) a.length (fun i => a[i]? = b[i]?) () (.inl ()) (.inr (false, ())) 0 rfl (Nat.zero_le _) ?_ ?_) ?_
    · intro i _ hi _
      have hb : i < b.length := by omega
      have ga := getN_some (List.getElem?_eq_getElem hi)
      have gb := getN_some (List.getElem?_eq_getElem hb)
      have hri := hr _ (List.getElem_mem hi)
      simp (disch := omega) only [cond_dec, if_pos, ga, gb, Option.bind_some, Ints_eq _ _ hri]
      rw [List.getElem?_eq_getElem hi, List.getElem?_eq_getElem hb]
      generalize hx : a[i] = x at hri
      generalize hy : b[i] = y
      obtain ⟨x1, x2, x3, x4, ⟨⟩⟩ := x
      obtain ⟨y1, y2, y3, y4, ⟨⟩⟩ := y
      simp only
      by_cases c1 : x1 = y1
      · by_cases c2 : x2 = y2
        · by_cases c4 : x4 = y4
          · by_cases c3 : x3 = y3
            · subst c1 c2 c3 c4
              simp (disch := omega) only [decide_true, Bool.not_true, show (false == false) = true from rfl, cond_true, cond_false, beq_self_eq_true, Option.bind_some, if_true, wrap_inc]
            · have hne : ¬ (some (x1, x2, x3, x4, ()) = some (y1, y2, y3, y4, ())) := fun h => by
                simp only [Option.some.injEq, Prod.mk.injEq] at h
                exact c3 h.2.2.1
              have : (x3 == y3) = false := by rw [beq_eq_false_iff_ne]; exact c3
              rw [if_neg hne]
              simp only [c1, c2, c4, this, decide_true, Bool.not_true, Bool.not_false, show (false == false) = true from rfl, cond_true, cond_false, Option.bind_some]
          · have hne : ¬ (some (x1, x2, x3, x4, ()) = some (y1, y2, y3, y4, ())) := fun h => by
              simp only [Option.some.injEq, Prod.mk.injEq] at h
              exact c4 h.2.2.2.1
            rw [if_neg hne]
            simp only [c1, c2, decF c4, decide_true, Bool.not_true, Bool.not_false, show (false == false) = true from rfl, show (true == false) = false from rfl, cond_true, cond_false, Option.bind_some]
        · have hne : ¬ (some (x1, x2, x3, x4, ()) = some (y1, y2, y3, y4, ())) := fun h => by
            simp only [Option.some.injEq, Prod.mk.injEq] at h
            exact c2 h.2.1
          rw [if_neg hne]
          simp only [c1, decF c2, decide_true, Bool.not_true, Bool.not_false, show (false == false) = true from rfl, show (true == false) = false from rfl, cond_true, cond_false, Option.bind_some]
      · have hne : ¬ (some (x1, x2, x3, x4, ()) = some (y1, y2, y3, y4, ())) := fun h => by
          simp only [Option.some.injEq, Prod.mk.injEq] at h
          exact c1 h.1
        rw [if_neg hne]
        simp only [decF c1, Bool.not_false, show (true == false) = false from rfl, cond_false, Option.bind_some]
    · intro _
      simp (disch := omega) only [cond_dec, if_neg]
    · by_cases h : a = b
      · subst h
        simp
      · have : ¬ ∀ i, 0 ≤ i → i < a.length → a[i]? = b[i]? := fun hh => h (getElem?_ext_lt hl (fun k hk => hh k (Nat.zero_le _) hk))
        rw [if_neg this, decF h]
  · have c : ¬ (((a.length : Nat) : Int) = ((b.length : Nat) : Int)) := by omega
    simp only [decF c, Bool.not_false, cond_true, decF (show ¬ a = b from fun h => hl (by rw [h]))]
theorem relaxV_length (adj : List (List Int)) (starts : List Int) (z : Int) : (relaxV adj starts z).1.length ≤ 200 := by
  unfold relaxV
  split
  · simp
  · rename_i hb
    have hb : bgn adj = 0 := by simpa using hb
    obtain ⟨hn, hV, hC⟩ := bgn_zero.1 hb
    split
    · rename_i h
      have hP := h.1.nat.choose_spec.choose_spec.choose_spec
      have := (rlx_chain hV hn (z := z) hC hP _ (Nat.le_refl _) adj.length (by rw [if_neg (Nat.lt_irrefl _)])).length
      rw [toL_length]
      omega
    · simp
theorem PN.m_le {n : Nat} {f : Nat → Int} {starts : List Int} {m : Nat} {s e : Nat → Nat} (hP : PN n f starts m s e) : m ≤ n := by
  have hsk : ∀ k, k < m → k ≤ s k := by
    intro k
    induction k with
    | zero => intro _; exact Nat.zero_le _
    | succ k ih => intro hk; have h1 := ih (by omega); have h2 := hP.ok k (by omega); have h3 := hP.ek k hk; omega
  rcases Nat.eq_zero_or_pos m with h | h
  · omega
  · have h1 := hsk (m - 1) (by omega); have h2 := hP.ok (m - 1) (by omega); omega
theorem frontsV_length (adj : List (List Int)) (starts : List Int) : (frontsV adj starts).1.length ≤ 200 ∧ ∀ x ∈ (frontsV adj starts).1, x.2.2.1.length ≤ 400 := by
  unfold frontsV
  split
  · simp
  · rename_i hb
    have hb : bgn adj = 0 := by simpa using hb
    obtain ⟨hn, hV, hC⟩ := bgn_zero.1 hb
    split
    · rename_i h
      have hP := h.nat.choose_spec.choose_spec.choose_spec
      have := hP.m_le
      refine ⟨by rw [fT_length]; omega, fun x hx => ?_⟩
      obtain ⟨k, hk, rfl⟩ := mem_fT.1 hx
      have := hP.ok k hk
      show (rowsV adj _ _).length ≤ 400
      rw [rowsV_length hV hn (by omega)]
      have := colV_length adj (h.nat.choose_spec.choose_spec.choose k - 1)
      omega
    · simp
theorem small21 (adj : List (List Int)) : Ok (d_sparselaw21q_small ((adj, ()), ())) (fun r => r.1 = true → adj.length ≤ 400 ∧ ∀ l ∈ adj, l.length ≤ 20) := by
  unfold d_sparselaw21q_small
  refine Ok.bind_of (P := fun q => match q with | .inl _ => adj.length ≤ 400 | .inr r => r = (false, ())) ?_ ?_
  · simp only [cond_dec, cond_dec_beq, cond_dec_beqF]
    by_cases h1 : ((adj.length : Nat) : Int) > 10
    · rw [if_pos h1]
      by_cases h2 : ((adj.length : Nat) : Int) ≤ 200
      · rw [if_pos h2]; exact Ok.some_iff.2 rfl
      · rw [if_neg h2]
        by_cases h3 : ((adj.length : Nat) : Int) > 400
        · rw [if_pos h3]; exact Ok.some_iff.2 rfl
        · rw [if_neg h3]; exact Ok.some_iff.2 (show adj.length ≤ 400 by omega)
    · rw [if_neg h1]
      rw [if_neg (by omega)]
      exact Ok.some_iff.2 (show adj.length ≤ 400 by omega)
  · rintro (⟨⟩ | r) h
    · have h : adj.length ≤ 400 := h
      refine Ok.bind_of (Ok.of_eq (loop_all (τ := Unit) adj.length (fun i => (adj.getD i []).length ≤ 20) () (.inl ()) (.inr (false, ())) 0 rfl (Nat.zero_le _) ?_ ?_) (rfl : _ = _)) ?_
      · intro i _ hi _
        have hg := getN_some (List.getElem?_eq_getElem hi)
        have hgd : adj.getD i [] = adj[i] := by simp only [List.getD, List.getElem?_eq_getElem hi, Option.getD_some]
        simp (disch := omega) only [cond_dec, if_pos, hg, Option.bind_some, hgd]
        by_cases hc : adj[i].length ≤ 20
        · rw [if_neg (by omega), if_pos hc, wrap_inc (by omega)]
        · rw [if_pos (by omega), if_neg hc]
      · intro _
        simp (disch := omega) only [cond_dec, if_neg]
      · rintro q rfl
        split <;> rename_i heq
        · exact Ok.some_iff.2 (fun _ => ⟨h, fun l hl => by
            obtain ⟨i, hi, rfl⟩ := List.mem_iff_getElem.1 hl
            by_cases hA : ∀ i, 0 ≤ i → i < adj.length → (adj.getD i []).length ≤ 20
            · have := hA i (Nat.zero_le _) hi
              simp only [List.getD, List.getElem?_eq_getElem hi, Option.getD_some] at this
              exact this
            · rw [if_neg hA] at heq; cases heq⟩)
        · rename_i r
          by_cases hA : ∀ i, 0 ≤ i → i < adj.length → (adj.getD i []).length ≤ 20
          · rw [if_pos hA] at heq; cases heq
          · rw [if_neg hA] at heq; cases heq
            exact Ok.some_iff.2 (fun h => by cases h)
    · have h : r = (false, ()) := h
      subst h
      exact Ok.some_iff.2 (fun h => by cases h)
theorem slim21 (l : List FrT) (hl : l.length < 9223372036854775808) : Ok (d_sparselaw21q_slim (l, ())) (fun r => r.1 = true → l.length ≤ 20 ∧ ∀ x ∈ l, x.2.2.1.length ≤ 20) := by
  unfold d_sparselaw21q_slim
  refine Ok.bind_of (Ok.of_eq (loop_all (τ := Unit) l.length (fun i => (rowsOf l (i : Int)).length ≤ 20) () (.inl ()) (.inr (false, ())) 0 rfl (Nat.zero_le _) ?_ ?_) (rfl : _ = _)) ?_
  · intro i _ hi _
    have hg := getN_some (List.getElem?_eq_getElem hi)
    simp (disch := omega) only [cond_dec, if_pos, hg, Option.bind_some, rowsOf_get hi]
    by_cases hc : l[i].2.2.1.length ≤ 20
    · rw [if_neg (by omega), if_pos hc, wrap_inc (by omega)]
    · rw [if_pos (by omega), if_neg hc]
  · intro _
    simp (disch := omega) only [cond_dec, if_neg]
  · rintro q rfl
    by_cases hA : ∀ i, 0 ≤ i → i < l.length → (rowsOf l (i : Int)).length ≤ 20
    · rw [if_pos hA]
      refine Ok.some_iff.2 (fun h => ⟨?_, fun x hx => ?_⟩)
      · have := of_decide_eq_true h; omega
      · obtain ⟨i, hi, rfl⟩ := List.mem_iff_getElem.1 hx
        have := hA i (Nat.zero_le _) hi
        rw [rowsOf_get hi] at this
        exact this
    · rw [if_neg hA]
      exact Ok.some_iff.2 (fun h => by cases h)
theorem SupernodeAny_true (adj : List (List Int)) (starts : List Int) (z : Int) (l : List FrT) (hll : l.length < 9223372036854775808) : d_sparselaw21q_SupernodeAny ((adj, ()), starts, z, l, ()) = some (true, ()) := by
  rw [← Ok.eq_iff]
  unfold d_sparselaw21q_SupernodeAny
  refine Ok.bind_of (P := fun q => q = .inr (true, ()) ∨ (q = .inl () ∧ adj.length ≤ 400 ∧ (∀ l ∈ adj, l.length ≤ 20) ∧ starts.length ≤ 20 ∧ l.length ≤ 20 ∧ ∀ x ∈ l, x.2.2.1.length ≤ 20)) ?_ ?_
  · refine Ok.bind_of (P := fun q => q.1 = true ∨ (q.1 = false ∧ adj.length ≤ 400 ∧ (∀ l ∈ adj, l.length ≤ 20) ∧ starts.length ≤ 20 ∧ l.length ≤ 20 ∧ ∀ x ∈ l, x.2.2.1.length ≤ 20)) ?_ ?_
    · refine Ok.bind_of (small21 adj) ?_
      rintro ⟨b, ⟨⟩⟩ hb
      cases b with
      | false => exact Ok.some_iff.2 (.inl rfl)
      | true =>
        obtain ⟨h1, h2⟩ := hb rfl
        simp only [Bool.not_true, show (false == false) = true from rfl, cond_true, cond_dec_beqF]
        by_cases h3 : ((starts.length : Nat) : Int) > 20
        · rw [if_pos h3]; exact Ok.some_iff.2 (.inl rfl)
        · rw [if_neg h3]
          refine Ok.bind_of (slim21 l hll) ?_
          rintro ⟨c, ⟨⟩⟩ hc
          cases c with
          | false => exact Ok.some_iff.2 (.inl rfl)
          | true =>
            obtain ⟨h4, h5⟩ := hc rfl
            exact Ok.some_iff.2 (.inr ⟨rfl, h1, h2, by omega, h4, h5⟩)
    · rintro ⟨b, ⟨⟩⟩ (hb | ⟨hb, h⟩)
      · simp only at hb
        subst hb
        simp only [cond_true, awake21, Option.bind_some]
        exact Ok.some_iff.2 (.inl rfl)
      · simp only at hb
        subst hb
        exact Ok.some_iff.2 (.inr ⟨rfl, h⟩)
  · rintro q (rfl | ⟨rfl, h1, h2, h3, h4, h5⟩)
    · exact Ok.some_iff.2 rfl
    have hlim : lim = 4294967296 := rfl
    have hc : ∀ l ∈ adj, l.length < 4611686018427387904 := fun l hl => by have := h2 l hl; omega
    have hlen : ∀ y ∈ l, y.2.2.1.length < 4611686018427387904 := fun y hy => by have := h5 y hy; omega
    have hs : starts.length < 4611686018427387904 := by omega
    obtain ⟨f1, f2⟩ := Fundamental_eq hc
    obtain ⟨r1, r2⟩ := Relax_eq hc hs z
    obtain ⟨g1, g2⟩ := Fronts_eq hc hs
    obtain ⟨c1, c2⟩ := Fcheck_eq hc (by omega) hlen
    have n1 : (if bgn adj = 0 then fdK adj adj.length else []).length < 4611686018427387904 := by
      split
      · have := fdK_length adj adj.length; omega
      · simp
    have n2 := relaxV_length adj starts z
    obtain ⟨n3, n4⟩ := frontsV_length adj starts
    have t1 : d_sparsekit_TwinGraph ((adj, ()), ()) = some ((adj, ()), ()) := by
      unfold d_sparsekit_TwinGraph
      simp only [TwinLists_eq adj (by omega) (fun l hl => by have := h2 l hl; omega), Option.bind_some]
    have t2 : d_sparsekit_Graph ((adj, ()), (adj, ()), ()) = some (true, ()) := by
      unfold d_sparsekit_Graph
      simp only [Lists_eq adj adj (by omega) hc, Option.bind_some, beq_self_eq_true]
    simp only [t1, t2, f1, f2, r1, r2, g1, g2, c1, c2, Option.bind_some, Ints_eq _ _ n1, Ints_eq _ _ (show (relaxV adj starts z).1.length < 4611686018427387904 by omega), beq_self_eq_true, cond_true,
      kitFronts_eq _ _ (show (frontsV adj starts).1.length < 4611686018427387904 by omega) (fun x hx => by have := n4 x hx; omega), decide_true, awake21]
    exact Ok.some_iff.2 rfl
end Go.Fw
end

section
set_option linter.unusedSimpArgs false
set_option linter.unusedVariables false
namespace Go.Fw
theorem anc_inv {A : Nat → Nat → Prop} {u v : Nat} (h : Anc A u v) : u = v ∨ ∃ p, IsPar A u p ∧ Anc A p v := by
  cases h with
  | refl => exact .inl rfl
  | up h1 h2 => exact .inr ⟨_, h1, h2⟩
section
variable {A B : Nat → Nat → Prop} {n : Nat} {od pos : Nat → Nat} (hA : ∀ a b, A a b → A b a) (hAn : ∀ a b, A a b → a < n ∧ b < n) (hB : ∀ a b, B a b ↔ a < n ∧ b < n ∧ A (od a) (od b))
    (hod : ∀ a, a < n → od a < n) (hpos : ∀ v, v < n → pos v < n ∧ od (pos v) = v) (hinj : ∀ a, a < n → pos (od a) = a)
    (htop : ∀ u p, IsPar A u p → pos u < pos p)
include hA hAn hB hod hpos hinj htop
omit hA hAn hB hod hpos hinj in
theorem anc_pos {u v : Nat} (h : Anc A u v) : u = v ∨ pos u < pos v := by
  induction h with
  | refl => exact .inl rfl
  | up h _ ih =>
    have := htop _ _ h
    rcases ih with rfl | ih
    · exact .inr this
    · exact .inr (by omega)
omit hAn hB hod hpos hinj in
theorem walk_pos {u x : Nat} (hx : x < u) (h : Walk A u u x) : pos x < pos u := by
  have := anc_of_walk hA hx (h.symm hA)
  rcases anc_pos htop this with rfl | h
  · omega
  · exact h
theorem fill_fwd {u v : Nat} (h : Walk A u u v) : Walk B (pos u) (pos u) (pos v) := by
  have key : ∀ {x y : Nat}, Walk A u x y → y = v → (x = u ∨ (x < u ∧ Walk A u u x)) → Walk B (pos u) (pos x) (pos v) := by
    intro x y h
    induction h with
    | @one x y h0 =>
      intro hy hx
      subst hy
      obtain ⟨h1, h2⟩ := hAn _ _ h0
      obtain ⟨p1, p2⟩ := hpos x h1
      obtain ⟨q1, q2⟩ := hpos y h2
      exact .one ((hB _ _).2 ⟨p1, q1, by rw [p2, q2]; exact h0⟩)
    | @step x m y h0 hm _ ih =>
      intro hy hx
      obtain ⟨h1, h2⟩ := hAn _ _ h0
      obtain ⟨p1, p2⟩ := hpos x h1
      obtain ⟨q1, q2⟩ := hpos m h2
      have hw : Walk A u u m := by
        rcases hx with rfl | ⟨hx, hw⟩
        · exact .one h0
        · exact hw.trans hx (.one h0)
      exact .step ((hB _ _).2 ⟨p1, q1, by rw [p2, q2]; exact h0⟩) (walk_pos hA htop hm hw) (ih hy (.inr ⟨hm, hw⟩))
  exact key h rfl (.inl rfl)
theorem fill_bwd {a b : Nat} (hab : a < b) (h : Walk B a a b) : od a < od b ∧ Walk A (od a) (od a) (od b) := by
  have han : a < n := by
    cases h with
    | one h => exact ((hB _ _).1 h).1
    | step h _ _ => exact ((hB _ _).1 h).1
  have key : ∀ {x y : Nat}, Walk B a x y → y = b → (x = a ∨ (x < a ∧ od x < od a ∧ Walk A (od a) (od a) (od x))) → b < n ∧ Walk A (od a) (od a) (od b) := by
    intro x y h
    induction h with
    | @one x y h0 =>
      intro hy hx
      subst hy
      obtain ⟨h1, h2, h3⟩ := (hB _ _).1 h0
      refine ⟨h2, ?_⟩
      rcases hx with rfl | ⟨_, hx, hw⟩
      · exact .one h3
      · exact hw.trans hx (.one h3)
    | @step x m y h0 hm _ ih =>
      intro hy hx
      obtain ⟨h1, h2, h3⟩ := (hB _ _).1 h0
      have hw : Walk A (od a) (od a) (od m) := by
        rcases hx with rfl | ⟨_, hx, hw⟩
        · exact .one h3
        · exact hw.trans hx (.one h3)
      refine ih hy (.inr ⟨hm, ?_, hw⟩)
      rcases Nat.lt_trichotomy (od m) (od a) with hl | he | hl
      · exact hl
      · have := hinj m h2
        rw [he, hinj a han] at this
        omega
      · have := anc_of_walk hA hl (hw.mono (by omega))
        have := anc_pos htop this
        rw [hinj m h2, hinj a han] at this
        rcases this with h | h
        · omega
        · omega
  obtain ⟨hbn, hw⟩ := key h rfl (.inl rfl)
  refine ⟨?_, hw⟩
  rcases Nat.lt_trichotomy (od a) (od b) with hl | he | hl
  · exact hl
  · have := hinj b hbn
    rw [← he, hinj a han] at this
    omega
  · have := walk_pos hA htop hl hw
    rw [hinj a han, hinj b hbn] at this
    omega
/-- The forest is the same. -/
theorem par_same {a b : Nat} (ha : a < n) (hb : b < n) : IsPar B a b ↔ IsPar A (od a) (od b) := by
  have hBs : ∀ a b, B a b → B b a := fun a b h => by
    obtain ⟨h1, h2, h3⟩ := (hB _ _).1 h
    exact (hB _ _).2 ⟨h2, h1, hA _ _ h3⟩
  have fwd : ∀ {a b : Nat}, a < n → b < n → IsPar A (od a) (od b) → IsPar B a b := by
    intro a b ha hb h
    have h1 := htop _ _ h
    rw [hinj a ha, hinj b hb] at h1
    have h2 := fill_fwd hA hAn hB hod hpos hinj htop h.fill
    rw [hinj a ha, hinj b hb] at h2
    refine ⟨h1, h2.mono (by omega), fun q hq hqb hw => ?_⟩
    -- the least one that is joined to a beyond a is not less than b
    obtain ⟨p', h3, h4⟩ := par_exists hq hw
    obtain ⟨h5, h6⟩ := fill_bwd hA hAn hB hod hpos hinj htop h4.1 h4.fill
    have h7 := h.least h5 h6
    have h8 : Anc A (od a) (od p') := anc_of_walk hA h5 (h6.mono (by omega))
    have h9 : Anc A (od b) (od p') := by
      rcases anc_inv h8 with e | ⟨p, hp, hr⟩
      · omega
      · have := h.uniq hp
        rw [this]; exact hr
    have := anc_pos htop h9
    rw [hinj b hb, hinj p' (by omega)] at this
    rcases this with e | e
    · have := hinj b hb
      rw [e, hinj p' (by omega)] at this
      omega
    · omega
  refine ⟨fun h => ?_, fwd ha hb⟩
  obtain ⟨h1, h2⟩ := fill_bwd hA hAn hB hod hpos hinj htop h.1 h.fill
  obtain ⟨p, h3, h4⟩ := par_exists h1 (h2.mono (by omega))
  have hpn : p < n := by have := hod b hb; omega
  obtain ⟨q1, q2⟩ := hpos p hpn
  have := fwd ha q1 (by rw [q2]; exact h4)
  have := h.uniq this
  subst this
  rw [q2]; exact h4
end
/-- The children of v. -/
def kidsN (f : Nat → Int) (v : Nat) : List Nat := (List.range v).filter fun c => decide (f c = (v : Int))
/-- The subtree of v in postorder, so many vertices deep. -/
def postD (f : Nat → Int) : Nat → Nat → List Nat
  | 0, _ => []
  | d + 1, v => ((kidsN f v).map (postD f d)).flatten ++ [v]
def postV (f : Nat → Int) (v : Nat) : List Nat := postD f (v + 1) v
theorem mem_kidsN {f : Nat → Int} {v c : Nat} : c ∈ kidsN f v ↔ c < v ∧ f c = (v : Int) := by
  simp [kidsN]
theorem postD_eq (f : Nat → Int) : ∀ v d, v < d → postD f d v = postV f v := by
  intro v
  induction v using Nat.strongRecOn with
  | ind v ih =>
    intro d hd
    obtain ⟨d, rfl⟩ : ∃ e, d = e + 1 := ⟨d - 1, by omega⟩
    unfold postV
    simp only [postD]
    congr 2
    refine List.map_congr_left fun c hc => ?_
    have hcv := (mem_kidsN.1 hc).1
    rw [ih c hcv d (by omega), ih c hcv v hcv]
theorem postV_eq (f : Nat → Int) (v : Nat) : postV f v = ((kidsN f v).map (postV f)).flatten ++ [v] := by
  unfold postV
  simp only [postD]
  congr 2
  refine List.map_congr_left fun c hc => ?_
  exact postD_eq f c v (mem_kidsN.1 hc).1
section
variable {n : Nat} {f : Nat → Int} (hf : PF n f)
include hf
theorem mem_postV : ∀ v, v < n → ∀ u, u ∈ postV f v ↔ Sub n f u v := by
  intro v
  induction v using Nat.strongRecOn with
  | ind v ih =>
    intro hv u
    rw [postV_eq, Sub.last_iff, List.mem_append, List.mem_flatten, List.mem_singleton]
    constructor
    · rintro (⟨l, hl, hu⟩ | h)
      · obtain ⟨c, hc, rfl⟩ := List.mem_map.1 hl
        obtain ⟨h1, h2⟩ := mem_kidsN.1 hc
        exact .inr ⟨c, (ih c h1 (by omega) u).1 hu, by omega, h2⟩
      · exact .inl h
    · rintro (h | ⟨c, h1, h2⟩)
      · exact .inr h
      · have h3 := RelF.lt hf h2
        exact .inl ⟨postV f c, List.mem_map.2 ⟨c, mem_kidsN.2 ⟨h3.1, h2.2⟩, rfl⟩, (ih c h3.1 h2.1 u).2 h1⟩
/-- Subtrees with no ancestor in common are apart. -/
theorem sub_apart {u c c' v : Nat} (h1 : RelF n f c v) (h2 : RelF n f c' v) (h3 : Sub n f u c) (h4 : Sub n f u c') : c = c' := by
  have key : ∀ {c c' : Nat}, RelF n f c v → RelF n f c' v → Sub n f u c → Sub n f u c' → c ≤ c' → c = c' := by
    intro c c' h1 h2 h3 h4 h
    rcases Sub.step_iff.1 (Sub.comp hf h3 h4 h) with e | ⟨p, h5, h6⟩
    · exact e
    · obtain rfl := RelF.det _ _ _ h1 h5
      have := Sub.le hf h6
      have := RelF.lt hf h2
      omega
  rcases Nat.le_total c c' with h | h
  · exact key h1 h2 h3 h4 h
  · exact (key h2 h1 h4 h3 h).symm
theorem postV_nodup : ∀ v, v < n → (postV f v).Nodup := by
  intro v
  induction v using Nat.strongRecOn with
  | ind v ih =>
    intro hv
    rw [postV_eq, List.nodup_append]
    refine ⟨?_, by simp, fun a ha b hb => ?_⟩
    · unfold List.Nodup
      rw [List.pairwise_flatten]
      refine ⟨fun l hl => ?_, ?_⟩
      · obtain ⟨c, hc, rfl⟩ := List.mem_map.1 hl
        obtain ⟨h1, h2⟩ := mem_kidsN.1 hc
        exact ih c h1 (by omega)
      · rw [List.pairwise_map]
        have hk : (kidsN f v).Pairwise (· < ·) := by
          unfold kidsN
          exact List.pairwise_lt_range.filter _
        refine hk.imp_of_mem fun {c c'} hc hc' hlt x hx y hy e => ?_
        subst e
        obtain ⟨h1, h2⟩ := mem_kidsN.1 hc
        obtain ⟨h3, h4⟩ := mem_kidsN.1 hc'
        have := sub_apart hf (v := v) ⟨by omega, h2⟩ ⟨by omega, h4⟩ ((mem_postV hf c (by omega) x).1 hx) ((mem_postV hf c' (by omega) x).1 hy)
        omega
    · rw [List.mem_singleton] at hb
      obtain ⟨l, hl, hal⟩ := List.mem_flatten.1 ha
      obtain ⟨c, hc, rfl⟩ := List.mem_map.1 hl
      obtain ⟨h1, h2⟩ := mem_kidsN.1 hc
      have := Sub.le hf ((mem_postV hf c (by omega) a).1 hal)
      omega
theorem postV_infix : ∀ v, v < n → ∀ w, Sub n f w v → ∃ L R, postV f v = L ++ postV f w ++ R := by
  intro v
  induction v using Nat.strongRecOn with
  | ind v ih =>
    intro hv w hw
    rcases Sub.last_iff.1 hw with rfl | ⟨c, h1, h2⟩
    · exact ⟨[], [], by simp⟩
    · have h3 := RelF.lt hf h2
      obtain ⟨L, R, h4⟩ := ih c h3.1 h2.1 w h1
      obtain ⟨K1, K2, h5⟩ := List.append_of_mem (mem_kidsN.2 ⟨h3.1, h2.2⟩ : c ∈ kidsN f v)
      refine ⟨(K1.map (postV f)).flatten ++ L, R ++ ((K2.map (postV f)).flatten ++ [v]), ?_⟩
      rw [postV_eq, h5, List.map_append, List.map_cons, List.flatten_append, List.flatten_cons, h4]
      simp only [List.append_assoc]
theorem root_of : ∀ d v, v < n → n - v ≤ d → ∃ r, r < n ∧ f r = -1 ∧ Sub n f v r := by
  intro d
  induction d with
  | zero => intro v hv h; omega
  | succ d ih =>
    intro v hv h
    rcases hf v hv with h1 | h1
    · exact ⟨v, hv, h1, .refl v⟩
    · obtain ⟨p, hp⟩ : ∃ p : Nat, f v = (p : Int) := ⟨(f v).toNat, by omega⟩
      obtain ⟨r, h2, h3, h4⟩ := ih p (by omega) (by omega)
      exact ⟨r, h2, h3, .step ⟨hv, hp⟩ h4⟩
theorem root_apart {u c c' : Nat} (hc : c < n) (hc' : c' < n) (h1 : f c = -1) (h2 : f c' = -1) (h3 : Sub n f u c) (h4 : Sub n f u c') : c = c' := by
  have key : ∀ {c c' : Nat}, f c = -1 → Sub n f u c → Sub n f u c' → c ≤ c' → c = c' := by
    intro c c' h1 h3 h4 h
    rcases Sub.step_iff.1 (Sub.comp hf h3 h4 h) with e | ⟨p, h5, h6⟩
    · exact e
    · have := h5.2; omega
  rcases Nat.le_total c c' with h | h
  · exact key h1 h3 h4 h
  · exact (key h2 h4 h3 h).symm
/-- The whole forest in postorder. -/
def postAll (n : Nat) (f : Nat → Int) : List Nat := (((List.range n).filter fun r => decide (f r = -1)).map (postV f)).flatten
theorem mem_postAll {u : Nat} : u ∈ postAll n f ↔ u < n := by
  unfold postAll
  rw [List.mem_flatten]
  constructor
  · rintro ⟨l, hl, hu⟩
    obtain ⟨r, hr, rfl⟩ := List.mem_map.1 hl
    simp only [List.mem_filter, List.mem_range, decide_eq_true_eq] at hr
    have := Sub.le hf ((mem_postV hf r hr.1 u).1 hu)
    omega
  · intro hu
    obtain ⟨r, h1, h2, h3⟩ := root_of hf n u hu (by omega)
    exact ⟨postV f r, List.mem_map.2 ⟨r, by simp [h1, h2], rfl⟩, (mem_postV hf r h1 u).2 h3⟩
theorem postAll_nodup : (postAll n f).Nodup := by
  unfold postAll List.Nodup
  rw [List.pairwise_flatten]
  refine ⟨fun l hl => ?_, ?_⟩
  · obtain ⟨r, hr, rfl⟩ := List.mem_map.1 hl
    simp only [List.mem_filter, List.mem_range, decide_eq_true_eq] at hr
    exact postV_nodup hf r hr.1
  · rw [List.pairwise_map]
    have hk : ((List.range n).filter fun r => decide (f r = -1)).Pairwise (· < ·) := List.pairwise_lt_range.filter _
    refine hk.imp_of_mem fun {c c'} hc hc' hlt x hx y hy e => ?_
    subst e
    simp only [List.mem_filter, List.mem_range, decide_eq_true_eq] at hc hc'
    have := root_apart hf hc.1 hc'.1 hc.2 hc'.2 ((mem_postV hf c hc.1 x).1 hx) ((mem_postV hf c' hc'.1 x).1 hy)
    omega
theorem postAll_length : (postAll n f).length = n := by
  have h := (List.perm_ext_iff_of_nodup (postAll_nodup hf) List.nodup_range).2 (fun a => by rw [mem_postAll hf, List.mem_range])
  rw [h.length_eq, List.length_range]
theorem postAll_infix {w : Nat} (hw : w < n) : ∃ L R, postAll n f = L ++ postV f w ++ R := by
  obtain ⟨r, h1, h2, h3⟩ := root_of hf n w hw (by omega)
  obtain ⟨L, R, h4⟩ := postV_infix hf r h1 w h3
  have hm : r ∈ (List.range n).filter fun r => decide (f r = -1) := by simp [h1, h2]
  obtain ⟨K1, K2, h5⟩ := List.append_of_mem hm
  refine ⟨(K1.map (postV f)).flatten ++ L, R ++ (K2.map (postV f)).flatten, ?_⟩
  unfold postAll
  rw [h5, List.map_append, List.map_cons, List.flatten_append, List.flatten_cons, h4]
  simp only [List.append_assoc]
end
end Go.Fw
end

section
set_option linter.unusedSimpArgs false
set_option linter.unusedVariables false
namespace Go.Fw
def natL (l : List Nat) : List Int := l.map fun (x : Nat) => (x : Int)
theorem natL_append (a b : List Nat) : natL (a ++ b) = natL a ++ natL b := by simp [natL]
theorem natL_length (a : List Nat) : (natL a).length = a.length := by simp [natL]
section
variable {n : Nat} {f : Nat → Int} (hf : PF n f) (hn : n ≤ 200)
include hf hn
/-- The children of v before c. -/
theorem kids_succ (v c : Nat) : ((List.range (c + 1)).filter fun c => decide (f c = (v : Int))) = ((List.range c).filter fun c => decide (f c = (v : Int))) ++ (if f c = (v : Int) then [c] else []) := by
  rw [List.range_succ, List.filter_append]
  by_cases h : f c = (v : Int) <;> simp [h]
theorem walk_deep : ∀ d v, v < d → v < n → ∀ out : List Nat, out.length + (postD f d v).length ≤ 4294967296 → r_sparseref19q_walk d (fT n f, (v : Int), natL out, ()) = some (natL (out ++ postD f d v), ()) := by
  intro d
  induction d with
  | zero => intro v hv; omega
  | succ d ih =>
    intro v hv hvn out hlen
    show r_sparseref19q_walkq_s (r_sparseref19q_walk d) (fT n f, (v : Int), natL out, ()) = _
    unfold r_sparseref19q_walkq_s
    simp only [postD] at hlen ⊢
    rw [List.length_append, List.length_singleton] at hlen
    have hpre : ∀ c, c ≤ v → ((((List.range c).filter fun c => decide (f c = (v : Int))).map (postD f d)).flatten).length ≤ (((kidsN f v).map (postD f d)).flatten).length := by
      intro c hc
      obtain ⟨e, rfl⟩ : ∃ e, v = c + e := ⟨v - c, by omega⟩
      unfold kidsN
      rw [List.range_add, List.filter_append, List.map_append, List.flatten_append, List.length_append]
      exact Nat.le_add_right _ _
    refine bind_eq (loop_for (r := (natL (out ++ ((kidsN f v).map (postD f d)).flatten), ())) v (fun c => (natL (out ++ (((List.range c).filter fun c => decide (f c = (v : Int))).map (postD f d)).flatten), ())) 0 rfl (by simp) (Nat.zero_le _) ?_ ?_) ?_
    · intro c _ hc
      have h1 := hpre c (by omega)
      have h2 := hpre (c + 1) (by omega)
      rw [kids_succ hf hn] at h2 ⊢
      simp (disch := omega) only [cond_dec, if_pos, getI_fT, Option.bind_some, beqI]
      by_cases h : f c = (v : Int)
      · rw [if_pos h] at h2 ⊢
        rw [List.map_append, List.flatten_append, List.length_append] at h2
        simp only [List.map_cons, List.map_nil, List.flatten_cons, List.flatten_nil, List.append_nil] at h2
        rw [if_pos h, ih c (by omega) (by omega) _ (by rw [List.length_append]; omega)]
        simp (disch := omega) only [Option.bind_some, wrap_inc]
        rw [List.map_append, List.flatten_append]
        simp only [List.map_cons, List.map_nil, List.flatten_cons, List.flatten_nil, List.append_nil, List.append_assoc]
      · rw [if_neg h, if_neg h, List.append_nil]
        simp (disch := omega) only [Option.bind_some, wrap_inc]
    · simp (disch := omega) only [cond_dec, if_neg]
      rfl
    · have : (natL (out ++ ((kidsN f v).map (postD f d)).flatten)).length + 1 ≤ 4294967296 := by
        rw [natL_length, List.length_append]; omega
      simp only [List.length_singleton, limO_ok this, Option.bind_some]
      rw [← List.append_assoc, natL_append (out ++ _) [v]]
      rfl
omit hn in
theorem postV_length {v : Nat} (hv : v < n) : (postV f v).length ≤ n := by
  obtain ⟨L, R, h⟩ := postAll_infix hf hv
  have := postAll_length hf
  rw [h, List.length_append, List.length_append] at this
  omega
theorem walk_eq {v : Nat} (hv : v < n) (out : List Nat) (ho : out.length ≤ 4000) : d_sparseref19q_walk (fT n f, (v : Int), natL out, ()) = some (natL (out ++ postV f v), ()) := by
  unfold d_sparseref19q_walk
  have hl := postV_length hf hv
  refine (fixO_iff (fun f f' h a => r_sparseref19q_walkq_mono f f' h a)).2 ⟨v + 1, ?_⟩
  have := walk_deep hf hn (v + 1) v (Nat.lt_succ_self v) hv out (by show out.length + (postV f v).length ≤ _; omega)
  exact this
theorem Postorder_eq : d_sparseref19q_Postorder (fT n f, ()) = some (natL (postAll n f), 0, ()) := by
  unfold d_sparseref19q_Postorder
  simp only [refCheckq_eq hf hn, Option.bind_some, bneI, decide_true, Bool.not_true, cond_false, fT_length]
  have hall := postAll_length hf
  have hpre : ∀ c, c ≤ n → ((((List.range c).filter fun r => decide (f r = -1)).map (postV f)).flatten).length ≤ n := by
    intro c hc
    obtain ⟨e, he⟩ : ∃ e, n = c + e := ⟨n - c, by omega⟩
    rw [← hall]
    unfold postAll
    rw [he, List.range_add, List.filter_append, List.map_append, List.flatten_append, List.length_append]
    exact Nat.le_add_right _ _
  refine bind_eq (loop_for (r := (natL (postAll n f), ())) n (fun c => (natL ((((List.range c).filter fun r => decide (f r = -1)).map (postV f)).flatten), ())) 0 rfl rfl (Nat.zero_le _) ?_ ?_) rfl
  · intro c _ hc
    have h1 := hpre c (by omega)
    have e : ((List.range (c + 1)).filter fun r => decide (f r = -1)) = ((List.range c).filter fun r => decide (f r = -1)) ++ (if f c = -1 then [c] else []) := by
      rw [List.range_succ, List.filter_append]
      by_cases h : f c = -1 <;> simp [h]
    simp (disch := omega) only [cond_dec, if_pos, getI_fT, Option.bind_some, beqI]
    rw [e]
    by_cases h : f c = -1
    · rw [if_pos h, if_pos h, walk_eq hf hn hc _ (by omega)]
      simp (disch := omega) only [Option.bind_some, wrap_inc, List.map_append, List.flatten_append, List.map_cons, List.map_nil, List.flatten_cons, List.flatten_nil, List.append_nil]
    · rw [if_neg h, if_neg h, List.append_nil]
      simp (disch := omega) only [Option.bind_some, wrap_inc]
  · simp (disch := omega) only [cond_dec, if_neg]
    rfl
end
/-- A list is a permutation: the program's own look. -/
theorem Perm_ok {l : List Nat} {n : Nat} (hn : n ≤ 4294967296) (hl : l.length = n) (hr : ∀ x ∈ l, x < n) (hd : l.Nodup) : d_sparsekit_Perm (natL l, (n : Int), ()) = some (true, ()) := by
  classical
  unfold d_sparsekit_Perm
  simp only [natL_length, hl, bneI, decide_true, Bool.not_true, cond_false, madeO_ok hn, Option.bind_some, fT_replicate]
  refine bind_eq (y := .inl ()) ?_ rfl
  refine loop_for n (fun i => (fT n (fun v => decide (v ∈ l.take i)), ())) 0 rfl (by simp) (Nat.zero_le _) ?_ ?_
  · intro i _ hi
    have hil : i < l.length := by omega
    have hg : getI (natL l) (i : Int) = some (l[i] : Int) := getN_some (by simp [natL, List.getElem?_eq_getElem hil])
    have hx := hr _ (List.getElem_mem hil)
    have hnot : l[i] ∉ l.take i := fun hm => by
      obtain ⟨m, hm1, hm2⟩ := List.mem_iff_getElem.1 hm
      simp only [List.length_take] at hm1
      simp only [List.getElem_take] at hm2
      have := (List.getElem_inj hd).1 hm2
      omega
    have e : fT n (fun v => decide (v ∈ l.take (i + 1))) = fT n (upd (fun v => decide (v ∈ l.take i)) l[i] true) := fT_congr fun v _ => by
      simp only [upd]
      by_cases h : v = l[i]
      · have : v ∈ l.take (i + 1) := by rw [← take_snoc hil, h]; exact List.mem_append_right _ (List.mem_singleton_self _)
        rw [if_pos h, decT this]
      · have : v ∈ l.take (i + 1) ↔ v ∈ l.take i := by
          rw [← take_snoc hil, List.mem_append, List.mem_singleton]
          exact ⟨fun h' => h'.resolve_right h, .inl⟩
        rw [if_neg h]
        simp only [this]
    have c1 : ¬ ((l[i] : Int) < 0) := by omega
    have c2 : ¬ ((l[i] : Int) ≥ (n : Int)) := by omega
    simp (disch := omega) only [cond_dec, if_pos, hg, Option.bind_some, cond_dec_beqF, if_neg c1, if_neg c2, fT_length, idxN_nat, atO_fT, if_neg hnot, fT_set, wrap_inc, e]
  · simp (disch := omega) only [cond_dec, if_neg]
/-- Relabelling a valid graph. -/
theorem refRelabel_ok {adj : List (List Int)} (hV : Valid adj) (hn : adj.length ≤ 200) {l : List Nat} (hl : l.length = adj.length) (hr : ∀ x ∈ l, x < adj.length) (hd : l.Nodup) :
    d_sparseref12q_Relabel ((adj, ()), natL l, ()) = some ((fromT (indT adj (natL l)), ()), 0, ()) := by
  unfold d_sparseref12q_Relabel
  have hr' : ∀ x ∈ natL l, 0 ≤ x ∧ x < (adj.length : Int) := fun x hx => by
    obtain ⟨y, hy, rfl⟩ := List.mem_map.1 hx
    have := hr y hy; omega
  have hd' : (natL l).Nodup := by
    unfold natL List.Nodup
    rw [List.pairwise_map]
    exact hd.imp fun h e => h (by omega)
  simp only [refCheck_eq adj (hV.hc hn), chk_zero.2 ⟨hn, hV⟩, Option.bind_some, bneI, decide_true, Bool.not_true, cond_false, natL_length, hl, Perm_ok (by omega) hl hr hd,
    Induced_eq hV (hV.hc hn) hn hr' hd' (by rw [natL_length]; omega)]
end Go.Fw
end

section
set_option linter.unusedSimpArgs false
set_option linter.unusedVariables false
namespace Go.Fw
theorem getD_lt {α : Type} {l : List α} {i : Nat} (h : i < l.length) (d : α) : l.getD i d = l[i] := by
  simp only [List.getD, List.getElem?_eq_getElem h, Option.getD_some]
theorem cnt_ge {P : Nat → Prop} {a : Nat} : ∀ {k : Nat}, (∀ u, a ≤ u → u < k → P u) → k - a ≤ cnt P k := by
  intro k
  induction k with
  | zero => intro _; omega
  | succ k ih =>
    intro h
    have h1 := ih (fun u h2 h3 => h u h2 (by omega))
    rcases cnt_succ P k with ⟨h2, h3⟩ | ⟨h2, h3⟩
    · omega
    · rcases Nat.lt_or_ge k a with h4 | h4
      · omega
      · exact absurd (h k h4 (by omega)) h2
section
variable {adj : List (List Int)} (hV : Valid adj) (hn : adj.length ≤ 200)
include hV hn
theorem post_bgn : bgn (fromT (indT adj (natL (postAll adj.length (parF adj))))) = 0 := by
  classical
  have hf := pf_parF hV hn
  have hlen := postAll_length hf
  have hnd := postAll_nodup hf
  have hmem : ∀ u, u ∈ postAll adj.length (parF adj) ↔ u < adj.length := fun u => mem_postAll hf
  have hinf : ∀ w, w < adj.length → ∃ L R, postAll adj.length (parF adj) = L ++ postV (parF adj) w ++ R := fun w hw => postAll_infix hf hw
  have hpv : ∀ v, v < adj.length → ∀ u, u ∈ postV (parF adj) v ↔ Sub adj.length (parF adj) u v := mem_postV hf
  have hpe := postV_eq (parF adj)
  have hsub := @sub_anc adj hV hn
  have hNs := Nb.symm hV
  have hNl : ∀ a b, Nb adj a b → a < adj.length ∧ b < adj.length := fun a b h => h.lt hV
  generalize hO : postAll adj.length (parF adj) = O at *
  -- the order and the places
  have hl' : ∀ x ∈ natL O, 0 ≤ x ∧ x < (adj.length : Int) := fun x hx => by
    obtain ⟨y, hy, rfl⟩ := List.mem_map.1 hx
    have := (hmem y).1 hy; omega
  have hd' : (natL O).Nodup := by
    unfold natL List.Nodup
    rw [List.pairwise_map]
    exact hnd.imp fun h e => h (by omega)
  have hod : ∀ a, a < adj.length → O.getD a 0 < adj.length := fun a ha => by
    rw [getD_lt (by omega)]
    exact (hmem _).1 (List.getElem_mem _)
  have hex : ∀ v, v < adj.length → ∃ a, a < adj.length ∧ O.getD a 0 = v := fun v hv => by
    obtain ⟨a, ha, e⟩ := List.mem_iff_getElem.1 ((hmem v).2 hv)
    exact ⟨a, by omega, by rw [getD_lt ha, e]⟩
  obtain ⟨pos, hposd⟩ : ∃ pos : Nat → Nat, ∀ v, v < adj.length → pos v < adj.length ∧ O.getD (pos v) 0 = v :=
    ⟨fun v => if h : v < adj.length then (hex v h).choose else 0, fun v hv => by simp only [dif_pos hv]; exact (hex v hv).choose_spec⟩
  have hinj' : ∀ a b, a < adj.length → b < adj.length → O.getD a 0 = O.getD b 0 → a = b := fun a b ha hb h => by
    rw [getD_lt (by omega), getD_lt (by omega)] at h
    exact (List.getElem_inj hnd).1 h
  have hinj : ∀ a, a < adj.length → pos (O.getD a 0) = a := fun a ha => by
    obtain ⟨h1, h2⟩ := hposd _ (hod a ha)
    exact hinj' _ _ h1 ha h2
  -- a subtree lies together
  have hblock : ∀ w, w < adj.length → ∃ a0, a0 ≤ pos w ∧ ∀ u, u < adj.length → (Sub adj.length (parF adj) u w ↔ a0 ≤ pos u ∧ pos u ≤ pos w) := by
    intro w hw
    obtain ⟨L, R, h1⟩ := hinf w hw
    have hK := hpe w
    generalize hKK : ((kidsN (parF adj) w).map (postV (parF adj))).flatten = K at hK
    have hlast : ∀ i, i < (postV (parF adj) w).length → L.length + i < adj.length ∧ O.getD (L.length + i) 0 = (postV (parF adj) w).getD i 0 := fun i hi => by
      have hlt : L.length + i < O.length := by rw [h1, List.length_append, List.length_append]; omega
      refine ⟨by omega, ?_⟩
      rw [getD_lt hlt, getD_lt hi]
      simp only [h1, List.append_assoc]
      rw [List.getElem_append_right (by omega)]
      simp only [Nat.add_sub_cancel_left]
      rw [List.getElem_append_left hi]
    have hpl : (postV (parF adj) w).length = K.length + 1 := by rw [hK]; simp
    have hpw : pos w = L.length + K.length := by
      obtain ⟨q1, q2⟩ := hlast K.length (by omega)
      have : (postV (parF adj) w).getD K.length 0 = w := by
        rw [getD_lt (by omega)]
        simp only [hK]
        rw [List.getElem_append_right (Nat.le_refl _)]
        simp
      rw [this] at q2
      rw [← q2]
      exact hinj _ q1
    refine ⟨L.length, by omega, fun u hu => ?_⟩
    rw [← hpv w hw u]
    constructor
    · intro hm
      obtain ⟨i, hi, e⟩ := List.mem_iff_getElem.1 hm
      obtain ⟨q1, q2⟩ := hlast i hi
      rw [getD_lt hi, e] at q2
      have : pos u = L.length + i := by rw [← q2]; exact hinj _ q1
      omega
    · rintro ⟨h2, h3⟩
      obtain ⟨q1, q2⟩ := hlast (pos u - L.length) (by omega)
      have e : L.length + (pos u - L.length) = pos u := by omega
      rw [e, (hposd u hu).2, getD_lt (by omega)] at q2
      rw [q2]
      exact List.getElem_mem _
  have htop : ∀ u p, IsPar (Nb adj) u p → pos u < pos p := fun u p h => by
    obtain ⟨h1, h2⟩ := (h.fill).lt hV
    obtain ⟨a0, h3, h4⟩ := hblock p h2
    have h5 := (h4 u h1).1 (hsub.2 (.up h (.refl _)))
    have h6 := (hposd u h1).2
    have h7 := (hposd p h2).2
    have := h.1
    rcases Nat.lt_or_ge (pos u) (pos p) with h8 | h8
    · exact h8
    · have e : pos u = pos p := by omega
      rw [e, h7] at h6
      omega
  have hlen' : (fromT (indT adj (natL O))).length = adj.length := by rw [fromT_length, indT_length, natL_length, hlen]
  have hV' : Valid (fromT (indT adj (natL O))) := fromT_valid _
  have hB : ∀ a b, Nb (fromT (indT adj (natL O))) a b ↔ a < adj.length ∧ b < adj.length ∧ Nb adj (O.getD a 0) (O.getD b 0) := fun a b => by
    rw [Nb_ind hV hl' hd']
    have hg : ∀ c, (h : c < (natL O).length) → ((natL O)[c]).toNat = O.getD c 0 := fun c h => by
      have h' : c < O.length := by simpa [natL] using h
      rw [getD_lt h']
      simp [natL]
    constructor
    · rintro ⟨ha, hb, h⟩
      rw [hg a ha, hg b hb] at h
      rw [natL_length] at ha hb
      exact ⟨by omega, by omega, h⟩
    · rintro ⟨ha, hb, h⟩
      have ha' : a < (natL O).length := by rw [natL_length]; omega
      have hb' : b < (natL O).length := by rw [natL_length]; omega
      exact ⟨ha', hb', by rw [hg a ha', hg b hb']; exact h⟩
  have hpar : ∀ {a b : Nat}, a < adj.length → b < adj.length → (IsPar (Nb (fromT (indT adj (natL O)))) a b ↔ IsPar (Nb adj) (O.getD a 0) (O.getD b 0)) := fun {a b} ha hb =>
    par_same (od := fun a => O.getD a 0) (pos := pos) hNs hNl hB hod hposd hinj htop ha hb
  -- subtrees
  have hsub' : ∀ {a b : Nat}, b < adj.length → a < adj.length → (Sub adj.length (parF (fromT (indT adj (natL O)))) a b ↔ Sub adj.length (parF adj) (O.getD a 0) (O.getD b 0)) := by
    have hsn := @sub_anc (fromT (indT adj (natL O))) hV' (by rw [hlen']; exact hn)
    rw [hlen'] at hsn
    intro a b hb ha
    rw [hsn, hsub]
    constructor
    · intro h
      have key : ∀ {a b : Nat}, Anc (Nb (fromT (indT adj (natL O)))) a b → a < adj.length → b < adj.length → Anc (Nb adj) (O.getD a 0) (O.getD b 0) := by
        intro a b h
        induction h with
        | refl => intro _ _; exact .refl _
        | @up u p v h1 h2 ih =>
          intro hu hv
          have hp : p < adj.length := by have := h2.le; omega
          exact .up ((hpar hu hp).1 h1) (ih hp hv)
      exact key h ha hb
    · intro h
      have key : ∀ {x y : Nat}, Anc (Nb adj) x y → ∀ a b, a < adj.length → b < adj.length → O.getD a 0 = x → O.getD b 0 = y → Anc (Nb (fromT (indT adj (natL O)))) a b := by
        intro x y h
        induction h with
        | refl u =>
          intro a b ha hb e1 e2
          rw [hinj' a b ha hb (by rw [e1, e2])]
          exact .refl _
        | @up u p v h1 h2 ih =>
          intro a b ha hb e1 e2
          have hpl := (h1.fill.lt hV).2
          obtain ⟨q1, q2⟩ := hposd p hpl
          refine .up ((hpar ha q1).2 (by rw [e1, q2]; exact h1)) (ih (pos p) b q1 hb q2 e2)
      exact key h a b ha hb rfl rfl
  rw [bgn_zero, hlen']
  refine ⟨hn, hV', fun b hb a hab => ?_⟩
  have hf' : PF adj.length (parF (fromT (indT adj (natL O)))) := by
    have := pf_parF hV' (by rw [hlen']; exact hn)
    rw [hlen'] at this
    exact this
  have hale := Sub.le hf' hab
  have ha : a < adj.length := by omega
  obtain ⟨a0, h1, h2⟩ := hblock (O.getD b 0) (hod b hb)
  rw [hinj b hb] at h1 h2
  have h3 := (h2 _ (hod a ha)).1 ((hsub' hb ha).1 hab)
  rw [hinj a ha] at h3
  -- the number of the subtree
  have h4 : b + 1 - a0 ≤ sz adj.length (parF (fromT (indT adj (natL O)))) b := by
    rw [sz_eq hf' (Nat.lt_succ_self b) hb]
    refine cnt_ge (fun u hu1 hu2 => ?_)
    refine (hsub' hb (by omega)).2 ((h2 _ (hod u (by omega))).2 ?_)
    rw [hinj u (by omega)]
    omega
  omega
end
theorem Post_ok (n : Nat) (l : List Int) (hn : n ≤ 200) (hl : l.length < 4611686018427387904) : Ok (d_sparsemake_Post ((n : Int), l, ())) (fun r => r.1.1.length = n ∧ bgn r.1.1 = 0) := by
  unfold d_sparsemake_Post
  refine Ok.bind_of (Graph_ok n l hn hl) ?_
  rintro ⟨⟨adj, ⟨⟩⟩, ⟨⟩⟩ ⟨hal, hV, hrow⟩
  simp only at hal hV hrow
  have hn' : adj.length ≤ 200 := by omega
  have hf := pf_parF hV hn'
  have hlen := postAll_length hf
  simp only [refParent_eq hV hn', Postorder_eq hf hn', refRelabel_ok hV hn' hlen (fun x hx => (mem_postAll hf).1 hx) (postAll_nodup hf), Option.bind_some]
  refine Ok.some_iff.2 ⟨?_, post_bgn hV hn'⟩
  show (fromT _).length = n
  rw [fromT_length, indT_length, natL_length, hlen, hal]
end Go.Fw
end

section
set_option linter.unusedSimpArgs false
set_option linter.unusedVariables false
namespace Go.Fw
/-- A stack of supernodes is a permitted partition. -/
theorem chain_perm {n : Nat} {f : Nat → Int} (hf : PF n f) : ∀ {st : List Nat} {x : Nat}, ChainS n f st x → x ≤ n → ∀ k, (h : k < (toL st).length) →
    (toL st)[k] < nxI (toL st) x k ∧ nxI (toL st) x k ≤ x ∧ nxI (toL st) x k ≤ (toL st)[k] + (sz n f (nxI (toL st) x k - 1).toNat : Int) ∧ 0 ≤ (toL st)[k] := by
  intro st
  induction st with
  | nil => intro x _ _ k h; simp [toL] at h
  | cons b r ih =>
    intro x hc hx k hk
    obtain ⟨c1, c2, c3⟩ := hc
    have hbn : b ≤ n := by omega
    have e := toL_cons b r
    have hl := toL_length r
    have hlc : (toL (b :: r)).length = r.length + 1 := by rw [e, List.length_append]; simp [hl]
    rcases Nat.lt_or_ge k r.length with h | h
    · have hk' : k < (toL r).length := by omega
      obtain ⟨i1, i2, i3, i4⟩ := ih c3 hbn k hk'
      have e1 : (toL (b :: r))[k] = (toL r)[k] := by simp only [e]; rw [List.getElem_append_left hk']
      have e2 : nxI (toL (b :: r)) x k = nxI (toL r) b k := by
        unfold nxI
        rw [e]
        rcases Nat.lt_or_ge (k + 1) r.length with h2 | h2
        · rw [List.getElem?_append_left (by omega), List.getElem?_eq_getElem (by omega)]; rfl
        · rw [List.getElem?_append_right (by omega), List.getElem?_eq_none (show (toL r).length ≤ k + 1 by omega)]
          have : k + 1 - (toL r).length = 0 := by omega
          rw [this]; rfl
      rw [e1, e2]
      omega
    · have hkr : k = r.length := by omega
      subst hkr
      have e1 : (toL (b :: r))[r.length] = (b : Int) := by
        simp only [e]
        rw [List.getElem_append_right (by omega)]; simp
      have e2 : nxI (toL (b :: r)) x r.length = (x : Int) := by
        unfold nxI
        rw [List.getElem?_eq_none (by omega)]; rfl
      rw [e1, e2]
      have hs : x - b ≤ sz n f (x - 1) := by
        rw [sz_eq hf (show x - 1 < x by omega) hx]
        exact cnt_ge (fun u h1 h2 => c2 u h1 h2)
      have e3 : ((x : Int) - 1).toNat = x - 1 := by omega
      rw [e3]
      omega
theorem chain_permI {n : Nat} {f : Nat → Int} (hf : PF n f) {st : List Nat} (hc : ChainS n f st n) (hn : 0 < n) (h0 : (toL st)[0]? = some 0) : PermI n f (toL st) := by
  refine .inr ⟨hn, h0, fun k h => ?_⟩
  obtain ⟨i1, i2, i3, _⟩ := chain_perm hf hc (Nat.le_refl _) k h
  exact ⟨i1, i2, i3⟩
/-- The bottom of a stack. -/
theorem toL_bottom (st : List Nat) (b : Nat) (h : st.getLast? = some b) : (toL st)[0]? = some (b : Int) := by
  unfold toL
  rw [List.getElem?_map, ← List.head?_eq_getElem?, List.head?_reverse, h]; rfl
section
variable {adj : List (List Int)} (hV : Valid adj) (hn : adj.length ≤ 200)
include hV hn
/-- The stack of the fundamental supernodes of the first k columns. -/
noncomputable def fdS (adj : List (List Int)) (k : Nat) : List Nat := ((List.range k).filter fun j => (open Classical in decide (fdB adj j))).reverse
omit hV hn in
theorem fdS_toL (adj : List (List Int)) (k : Nat) : toL (fdS adj k) = fdK adj k := by
  unfold toL fdS fdK
  rw [List.reverse_reverse]
omit hV hn in
theorem fdS_succ (adj : List (List Int)) (k : Nat) : fdS adj (k + 1) = (open Classical in if fdB adj k then k :: fdS adj k else fdS adj k) := by
  unfold fdS
  rw [List.range_succ, List.filter_append, List.reverse_append]
  by_cases h : fdB adj k <;> simp [h]
omit hV hn in
theorem fdB_zero (adj : List (List Int)) : fdB adj 0 := fun h => by omega
omit hV hn in
theorem fdS_last (adj : List (List Int)) (k : Nat) : (fdS adj (k + 1)).getLast? = some 0 := by
  induction k with
  | zero => rw [fdS_succ, if_pos (fdB_zero adj)]; rfl
  | succ k ih =>
    rw [fdS_succ]
    split
    · rw [List.getLast?_cons, ih]; rfl
    · exact ih
theorem fdS_chain : ∀ k, k ≤ adj.length → ChainS adj.length (parF adj) (fdS adj k) k := by
  intro k
  induction k with
  | zero => intro _; trivial
  | succ k ih =>
    intro hk
    have h := ih (by omega)
    rw [fdS_succ]
    by_cases hb : fdB adj k
    · rw [if_pos hb]
      refine ⟨Nat.lt_succ_self _, fun j h1 h2 => ?_, h⟩
      obtain rfl : j = k := by omega
      exact .refl _
    · rw [if_neg hb]
      have hb' : 0 < k ∧ parF adj (k - 1) = (k : Int) := by
        by_cases hb2 : 0 < k ∧ parF adj (k - 1) = (k : Int) ∧ (kidsV (parF adj) k k).length = 1 ∧ (colV adj (k - 1)).length = (colV adj k).length + 1
        · exact ⟨hb2.1, hb2.2.1⟩
        · exact absurd hb2 hb
      cases hs : fdS adj k with
      | nil => trivial
      | cons b r =>
        rw [hs] at h
        refine ⟨by have := h.1; omega, fun j h1 h2 => ?_, h.2.2⟩
        rcases Nat.lt_or_ge j k with h3 | h3
        · exact (h.2.1 j h1 h3).trans (.step ⟨by omega, hb'.2⟩ (.refl _))
        · obtain rfl : j = k := by omega
          exact .refl _
theorem fd_perm : PermI adj.length (parF adj) (fdK adj adj.length) := by
  rcases Nat.eq_zero_or_pos adj.length with h | h
  · rw [h]
    exact .inl ⟨rfl, rfl⟩
  · rw [← fdS_toL]
    refine chain_permI (pf_parF hV hn) (fdS_chain hV hn _ (Nat.le_refl _)) h ?_
    obtain ⟨k, hk⟩ : ∃ k, adj.length = k + 1 := ⟨adj.length - 1, by omega⟩
    rw [hk]
    exact toL_bottom _ 0 (fdS_last adj k)
/-- Relaxed partitions are permitted. -/
theorem pop_last {z : Int} {last : Nat} : ∀ {st : List Nat} {f b : Nat}, (f :: st).getLast? = some b → ((rlxPop adj z last st f).2 :: (rlxPop adj z last st f).1).getLast? = some b
  | [], _, _, h => h
  | c :: r, f, b, h => by
      simp only [rlxPop]
      have h' : (c :: r).getLast? = some b := by rw [List.getLast?_cons_cons] at h; exact h
      split
      · exact pop_last h'
      · exact h
theorem rlx_last {z : Int} {starts : List Int} {m : Nat} {s e : Nat → Nat} (hP : PN adj.length (parF adj) starts m s e) (h0 : 0 < adj.length) : ∀ k, k < m → (rlx adj z s e (k + 1)).getLast? = some 0 := by
  intro k
  induction k with
  | zero =>
    intro hk
    have := (hP.s0 h0).2
    simp only [rlx]
    exact pop_last hV hn (by simp [this])
  | succ k ih =>
    intro hk
    have h := ih (by omega)
    simp only [rlx] at h ⊢
    refine pop_last hV hn ?_
    rw [List.getLast?_cons, h]; rfl
theorem rlx_perm {z : Int} {starts : List Int} {m : Nat} {s e : Nat → Nat} (hC : Contig adj.length (parF adj)) (hP : PN adj.length (parF adj) starts m s e) : PermI adj.length (parF adj) (toL (rlx adj z s e m)) := by
  rcases Nat.eq_zero_or_pos adj.length with h | h
  · have := hP.mz h
    subst this
    exact .inl ⟨h, rfl⟩
  · have hm := (hP.s0 h).1
    refine chain_permI (pf_parF hV hn) (rlx_chain hV hn (z := z) hC hP m (Nat.le_refl _) adj.length (by rw [if_neg (Nat.lt_irrefl _)])) h ?_
    obtain ⟨k, rfl⟩ : ∃ k, m = k + 1 := ⟨m - 1, by omega⟩
    exact toL_bottom _ 0 (rlx_last hV hn hP h k (Nat.lt_succ_self _))
theorem relax_perm {starts : List Int} {z : Int} (hb : bgn adj = 0) (h : PermI adj.length (parF adj) starts) (hz : 0 ≤ z) : (relaxV adj starts z).2 = 0 ∧ PermI adj.length (parF adj) (relaxV adj starts z).1 := by
  unfold relaxV
  rw [if_neg (by simpa using hb), dif_pos ⟨h, hz⟩]
  exact ⟨rfl, rlx_perm hV hn (bgn_zero.1 hb).2.2 h.nat.choose_spec.choose_spec.choose_spec⟩
theorem fronts_of {starts : List Int} (hb : bgn adj = 0) (h : PermI adj.length (parF adj) starts) : ∃ m s e, PN adj.length (parF adj) starts m s e ∧ frontsV adj starts = (fT m (frV adj m s e), 0) := by
  refine ⟨_, _, _, h.nat.choose_spec.choose_spec.choose_spec, ?_⟩
  unfold frontsV
  rw [if_neg (by simpa using hb), dif_pos h]
end
end Go.Fw
end

section
set_option linter.unusedSimpArgs false
set_option linter.unusedVariables false
namespace Go.Fw
theorem colV_nat {adj : List (List Int)} (hV : Valid adj) {j : Nat} {x : Int} (h : x ∈ colV adj j) : ∃ i : Nat, x = (i : Int) ∧ i < adj.length ∧ j ≤ i := by
  have h' := h
  unfold colV colK at h
  simp only [List.mem_map] at h
  obtain ⟨i, _, rfl⟩ := h
  have := mem_colV.1 h'
  exact ⟨i, rfl, this.1, this.2.le⟩
section
variable {adj : List (List Int)} (hV : Valid adj) (hn : adj.length ≤ 200)
include hV hn
section
variable {starts : List Int} {m : Nat} {s e : Nat → Nat} (hC : Contig adj.length (parF adj)) (hP : PN adj.length (parF adj) starts m s e)
include hC hP
theorem fr_get {k : Nat} (hk : k < m) : (fT m (frV adj m s e))[k]'(by rw [fT_length]; exact hk) = frV adj m s e k := fT_getElem _
theorem fr_cE : ∀ k, k ≤ m → cE (fT m (frV adj m s e)) k = if k < m then s k else adj.length := by
  intro k hk
  cases k with
  | zero =>
    show 0 = _
    by_cases h : 0 < m
    · rw [if_pos h]
      have h2 := hP.ok 0 h
      exact (hP.s0 (by omega)).2.symm
    · rw [if_neg h]
      rcases Nat.eq_zero_or_pos adj.length with h2 | h2
      · omega
      · have := (hP.s0 h2).1; omega
  | succ k =>
    have hk' : k < m := by omega
    simp only [cE]
    rw [fT_get hk']
    show ((e k : Int)).toNat = _
    rw [Int.toNat_natCast]
    split
    · rename_i h; exact hP.ek k h
    · exact hP.el k (by omega)
theorem fr_cE1 {k : Nat} (hk : k < m) : cE (fT m (frV adj m s e)) k = s k := by
  rw [fr_cE hV hn hC hP k (by omega), if_pos hk]
theorem fr_cE2 {k : Nat} (hk : k < m) : cE (fT m (frV adj m s e)) (k + 1) = e k := by
  rw [fr_cE hV hn hC hP (k + 1) hk]
  split
  · rename_i h; exact (hP.ek k h).symm
  · exact (hP.el k (by omega)).symm
theorem fr_CO : CO adj.length (fT m (frV adj m s e)) := by
  constructor
  · intro k hk
    rw [fT_length] at hk
    obtain ⟨g1, g2, g3⟩ := hP.ok k hk
    refine ⟨_, fT_get hk, ?_, ?_, ?_⟩
    · rw [fr_cE1 hV hn hC hP hk]; rfl
    · rw [fr_cE1 hV hn hC hP hk]
      show (s k : Int) < (e k : Int)
      omega
    · show (e k : Int) ≤ _
      omega
  · rw [fT_length, fr_cE hV hn hC hP m (Nat.le_refl _), if_neg (Nat.lt_irrefl _)]
theorem fr_hold {p : Nat} (hp : p < adj.length) : ∃ q, q < m ∧ s q ≤ p ∧ p < e q ∧ lastLe s p m = (q : Int) ∧ lastLe (cE (fT m (frV adj m s e))) p m = (q : Int) := by
  obtain ⟨q, h1, h2, h3⟩ := hP.cover hp
  refine ⟨q, h1, h2, h3, hP.lastLe h1 h2 h3 m h1 (Nat.le_refl _), ?_⟩
  have hCO := fr_CO hV hn hC hP
  refine cE_lastLe (m := m) (fun k hk => ⟨by rw [fT_length]; exact hk, hCO.1 k (by rw [fT_length]; exact hk)⟩) h1 ?_ ?_ m h1 (Nat.le_refl _)
  · rw [fr_cE1 hV hn hC hP h1]; exact h2
  · rw [fr_cE2 hV hn hC hP h1]; exact h3
theorem fr_ok : FrOk adj (fT m (frV adj m s e)) := by
  have hf := pf_parF hV hn
  have hCO := fr_CO hV hn hC hP
  have hrow : ∀ q, q < m → rowsOf (fT m (frV adj m s e)) (q : Int) = rowsV adj (s q) (e q) := fun q hq => by
    rw [rowsOf_get (by rw [fT_length]; exact hq), fr_get hV hn hC hP hq]; rfl
  refine ⟨hCO, fun k hk => ?_, fun k hk => ?_, fun j i hnb hji => ?_⟩
  · rw [fT_length] at hk
    rw [fr_get hV hn hC hP hk]
    obtain ⟨g1, g2, g3⟩ := hP.ok k hk
    have hlen := rowsV_length hV hn g1
    have hasc := rowsV_asc hV g1 g2
    obtain ⟨r, hr, _⟩ := colV_cons hV (show e k - 1 < adj.length by omega)
    have hown : ((e k : Int) - (s k : Int)).toNat = e k - s k := by omega
    refine (shape_iff (x := frV adj m s e k) (show (0 : Int) ≤ (s k : Int) by omega) (show (s k : Int) < (e k : Int) by omega) (show (e k : Int) ≤ _ by omega)).2 ⟨hasc, ?_⟩
    have hcl : (colV adj (e k - 1)).length = r.length + 1 := by rw [hr]; rfl
    refine ⟨?_, ?_, ?_, ?_⟩
    · show ((e k : Int) - (s k : Int)).toNat ≤ (rowsV adj (s k) (e k)).length
      omega
    · show (rowsV adj (s k) (e k))[0] = (s k : Int)
      unfold rowsV
      rcases Nat.lt_or_ge (s k) (e k - 1) with h | h
      · rw [List.getElem_append_left (by rw [fT_length]; omega), fT_getElem]; simp
      · rw [List.getElem_append_right (by rw [fT_length]; omega)]
        simp only [fT_length, hr]
        have : 0 - (e k - 1 - s k) = 0 := by omega
        simp only [this, List.getElem_cons_zero]
        omega
    · show (rowsV adj (s k) (e k))[((e k : Int) - (s k : Int)).toNat - 1] = (e k : Int) - 1
      unfold rowsV
      rw [List.getElem_append_right (by rw [fT_length]; omega)]
      simp only [fT_length, hr]
      have : ((e k : Int) - (s k : Int)).toNat - 1 - (e k - 1 - s k) = 0 := by omega
      simp only [this, List.getElem_cons_zero]
      omega
    · have hm := List.getElem_mem (l := rowsV adj (s k) (e k)) (n := (rowsV adj (s k) (e k)).length - 1) (by omega)
      show (rowsV adj (s k) (e k))[(rowsV adj (s k) (e k)).length - 1] < _
      rcases List.mem_append.1 hm with h | h
      · obtain ⟨i, hi, h2⟩ := mem_fT.1 h
        unfold rowsV at h2 ⊢
        omega
      · obtain ⟨i, h2, h3, _⟩ := colV_nat hV h
        unfold rowsV at h2 ⊢
        omega
  · rw [fT_length] at hk
    rw [fr_get hV hn hC hP hk]
    obtain ⟨g1, g2, g3⟩ := hP.ok k hk
    have hlen := rowsV_length hV hn g1
    have hown : ((e k : Int) - (s k : Int)).toNat = e k - s k := by omega
    have hF := forest_of hV hn
    have hpc := par_of_col hV hF (show e k - 1 < adj.length by omega)
    rw [fT_get (show e k - 1 < adj.length by omega)] at hpc
    unfold LinkK
    have e1 : (frV adj m s e k).2.2.1 = rowsV adj (s k) (e k) := rfl
    have e2 : ((frV adj m s e k).2.1 - (frV adj m s e k).1).toNat = e k - s k := hown
    have e3 : (frV adj m s e k).2.2.2.1 = if 0 ≤ parF adj (e k - 1) then lastLe s (parF adj (e k - 1)).toNat m else -1 := by
      show (if k < m ∧ 0 ≤ parF adj (e k - 1) then _ else _) = _
      have : (k < m ∧ 0 ≤ parF adj (e k - 1)) ↔ 0 ≤ parF adj (e k - 1) := ⟨fun h => h.2, fun h => ⟨hk, h⟩⟩
      simp only [this]
    rcases hpc with ⟨h1, h2⟩ | ⟨p, r, h1, h2, h3, h4⟩
    · left
      simp only [Option.some.injEq] at h2
      rw [e3, h2, if_neg (by omega)]
      refine ⟨?_, rfl⟩
      simp only [e1, e2]
      rw [hlen, h1]
      simp only [List.length_singleton]; omega
    · right
      simp only [Option.some.injEq] at h2
      obtain ⟨q, q1, q2, q3, q4, q5⟩ := fr_hold hV hn hC hP h4
      have hpk := h3.1
      have hrl : (colV adj (e k - 1)).length = r.length + 2 := by rw [h1]; rfl
      have hlt : e k - s k < (rowsV adj (s k) (e k)).length := by omega
      have hat : ∀ h, (rowsV adj (s k) (e k))[e k - s k]'h = (p : Int) := fun h => by
        have h5 : (rowsV adj (s k) (e k))[e k - s k]? = some (p : Int) := by
          unfold rowsV
          rw [List.getElem?_append_right (by rw [fT_length]; omega), fT_length, h1]
          have : e k - s k - (e k - 1 - s k) = 1 := by omega
          rw [this]; rfl
        rw [List.getElem?_eq_getElem h] at h5
        exact Option.some.inj h5
      simp only [e1, e2]
      refine ⟨hlt, ?_, fun i hi hil => ?_⟩
      · rw [e3, h2, if_pos (by omega), Int.toNat_natCast, hat, Int.toNat_natCast, fT_length, q4, q5]
      · rw [e3, h2, if_pos (by omega), Int.toNat_natCast, q4, hrow q q1]
        obtain ⟨g1', g2', _⟩ := hP.ok q q1
        -- a row beyond the columns
        have hx : (rowsV adj (s k) (e k))[i] ∈ colV adj (e k - 1) ∧ (e k : Int) ≤ (rowsV adj (s k) (e k))[i] := by
          have hm := List.getElem_mem hil
          have hmono := List.pairwise_iff_getElem.1 (rowsV_asc hV g1 g2)
          have hge : (p : Int) ≤ (rowsV adj (s k) (e k))[i] := by
            rcases Nat.lt_or_ge (e k - s k) i with h | h
            · have := hmono (e k - s k) i hlt hil h
              rw [hat] at this; omega
            · obtain rfl : i = e k - s k := by omega
              rw [hat]; exact Int.le_refl _
          refine ⟨?_, by omega⟩
          rcases List.mem_append.1 (show (rowsV adj (s k) (e k))[i] ∈ fT (e k - 1 - s k) (fun i => ((s k + i : Nat) : Int)) ++ colV adj (e k - 1) from hm) with h | h
          · obtain ⟨i', hi', h2⟩ := mem_fT.1 h
            omega
          · exact h
        obtain ⟨x, hxe, hxn, _⟩ := colV_nat hV hx.1
        rw [hxe] at hx ⊢
        have hcp : (x : Int) ∈ colV adj p := col_next hV h3 h4 ⟨hx.1, by omega⟩
        exact col_sub_rows hV hn g1' g2' (fun j h5 h6 => hP.sub hf hC q1 j h5 h6) q2 q3 hcp
  · obtain ⟨hj, hi⟩ := hnb.lt hV
    obtain ⟨q, q1, q2, q3, q4, q5⟩ := fr_hold hV hn hC hP hj
    rw [fT_length, q5, hrow q q1]
    obtain ⟨g1', g2', _⟩ := hP.ok q q1
    exact col_sub_rows hV hn g1' g2' (fun j h5 h6 => hP.sub hf hC q1 j h5 h6) q2 q3 (mem_colV.2 ⟨hi, .inr ⟨hji, .one hnb⟩⟩)
end
/-- Where a vertex's front is. -/
def Hd (l : List FrT) (v q : Nat) : Prop := q < l.length ∧ cE l q ≤ v ∧ v < cE l (q + 1)
omit hV hn in
theorem Hd.last {l : List FrT} {n v q : Nat} (hCO : CO n l) (h : Hd l v q) : lastLe (cE l) v l.length = (q : Int) :=
  cE_lastLe (m := l.length) (fun k hk => ⟨hk, hCO.1 k hk⟩) h.1 h.2.1 h.2.2 l.length h.1 (Nat.le_refl _)
/-- What lies in the rows of a front together with a later vertex lies in the rows of that vertex's front. -/
theorem rows_climb {l : List FrT} (hO : FrOk adj l) {x y h : Nat} (hh : Hd l x h) (hxy : x ≤ y) : ∀ d q, q + d = h → q < l.length → cE l q ≤ x → (x : Int) ∈ rowsOf l (q : Int) → (y : Int) ∈ rowsOf l (q : Int) → (y : Int) ∈ rowsOf l (h : Int) := by
  obtain ⟨hCO, hS, hL, _⟩ := hO
  intro d
  induction d using Nat.strongRecOn with
  | ind d ih =>
    intro q hq hql hqx hx hy
    rcases Nat.eq_zero_or_pos d with h0 | h0
    · subst h0
      have : q = h := by omega
      rw [← this]; exact hy
    · obtain ⟨c1, c2, c3, c4⟩ := (hCO.1 q hql).at hql
      have hmq := cE_mono (m := l.length) (fun k hk => ⟨hk, hCO.1 k hk⟩) (q + 1) h (by omega) (by have := hh.1; omega)
      have hlx : cE l (q + 1) ≤ x := by have := hh.2.1; omega
      rw [rowsOf_get hql] at hx hy
      have hSq := hS q hql
      have hLq := hL q hql
      have hasc := hSq.asc (by omega) (by omega)
      have hmono := List.pairwise_iff_getElem.1 hasc
      generalize hF : l[q] = F at *
      have hown : (F.2.1 - F.1).toNat = cE l (q + 1) - cE l q := by omega
      obtain ⟨ix, hix, ex⟩ := List.mem_iff_getElem.1 hx
      obtain ⟨iy, hiy, ey⟩ := List.mem_iff_getElem.1 hy
      have hbey : ∀ i, (hi : i < F.2.2.1.length) → F.2.1 ≤ F.2.2.1[i] → (F.2.1 - F.1).toNat ≤ i := fun i hi hle => by
        rcases Nat.lt_or_ge i (F.2.1 - F.1).toNat with h1 | h1
        · have := (hSq.2 i (Nat.zero_le _) hi hi).1 h1
          omega
        · exact h1
      have hx2 := hbey ix hix (by rw [ex, c2]; omega)
      have hy2 := hbey iy hiy (by rw [ey, c2]; omega)
      rcases hLq with ⟨h1, _⟩ | ⟨h1, h2, h3⟩
      · omega
      · -- the parent
        have hro := (hSq.2 _ (Nat.zero_le _) h1 h1).2 (Nat.le_refl _)
        obtain ⟨w, hw⟩ : ∃ w : Nat, F.2.2.1[(F.2.1 - F.1).toNat] = (w : Int) := ⟨(F.2.2.1[(F.2.1 - F.1).toNat]).toNat, by omega⟩
        rw [hw] at hro
        obtain ⟨p, hp1, hp2, hp3⟩ := cE_cover hCO (show w < adj.length by omega)
        have hlast := Hd.last hCO (⟨hp1, hp2, hp3⟩ : Hd l w p)
        rw [hw, Int.toNat_natCast, hlast] at h2
        have hwx : w ≤ x := by
          rcases Nat.lt_or_ge (F.2.1 - F.1).toNat ix with h4 | h4
          · have := hmono _ ix h1 hix h4
            rw [hw, ex] at this; omega
          · have h5 : ix = (F.2.1 - F.1).toNat := by omega
            subst h5
            rw [hw] at ex; omega
        have hqp : q < p := by
          rcases Nat.lt_or_ge q p with h4 | h4
          · exact h4
          · have := cE_mono (m := l.length) (fun k hk => ⟨hk, hCO.1 k hk⟩) (p + 1) (q + 1) (by omega) (by omega)
            omega
        have hph : p ≤ h := by
          rcases Nat.lt_or_ge h p with h4 | h4
          · have := cE_mono (m := l.length) (fun k hk => ⟨hk, hCO.1 k hk⟩) (h + 1) p (by omega) (by omega)
            have := hh.2.2
            omega
          · exact h4
        have q1 := h3 ix hx2 hix
        have q2 := h3 iy hy2 hiy
        rw [h2, ex] at q1
        rw [h2, ey] at q2
        exact ih (h - p) (by omega) p (by omega) hp1 (by omega) q1 q2
/-- Accepted fronts contain the pattern of the factor. -/
theorem fr_contains {l : List FrT} (hO : FrOk adj l) : ∀ v q, Hd l v q → ∀ i, v < i → (i : Int) ∈ colV adj v → (i : Int) ∈ rowsOf l (q : Int) := by
  have hNs := Nb.symm hV
  obtain ⟨hCO, hS, hL, hE⟩ := id hO
  have key : ∀ v q, Hd l v q → ∀ i, v < i → (∃ k, Nb adj i k ∧ Anc (Nb adj) k v) → (i : Int) ∈ rowsOf l (q : Int) := by
    intro v
    induction v using Nat.strongRecOn with
    | ind v ih =>
      rintro q hq i hvi ⟨k, hk, ha⟩
      have hvn : v < adj.length := by
        have h1 := (hCO.1 q hq.1).at hq.1
        have := hq.2.2
        omega
      have hkl := ha.le
      rcases (Sub.last_iff (n := adj.length) (f := parF adj)).1 ((sub_anc hV hn).2 ha) with e | ⟨c, h1, h2⟩
      · subst e
        have := hE k i (hNs _ _ hk) hvi
        rw [hq.last hCO] at this
        exact this
      · have hp := (parF_iff hV hn).1 h2
        have hcv := hp.1
        obtain ⟨qc, g1, g2, g3⟩ := cE_cover hCO (show c < adj.length by omega)
        have hqc : Hd l c qc := ⟨g1, g2, g3⟩
        have h3 := ih c hcv qc hqc i (by omega) ⟨k, hk, (sub_anc hV hn).1 h1⟩
        obtain ⟨k', hk', ha'⟩ := (row_iff hNs hcv).1 (hp.fill.mono (Nat.le_refl _))
        have h4 := ih c hcv qc hqc v hcv ⟨k', hk', ha'⟩
        have hle : qc ≤ q := by
          rcases Nat.lt_or_ge q qc with h5 | h5
          · have := cE_mono (m := l.length) (fun k hk => ⟨hk, hCO.1 k hk⟩) (q + 1) qc (by omega) (by omega)
            have := hq.2.2
            omega
          · exact h5
        exact rows_climb hV hn hO hq (by omega) (q - qc) qc (by omega) g1 (by omega) h4 h3
  intro v q hq i hvi hi
  rcases (mem_colV.1 hi).2 with h | ⟨_, h⟩
  · omega
  · exact key v q hq i hvi ((row_iff hNs hvi).1 h)
/-- .. also on the diagonal. -/
theorem fr_contains' {l : List FrT} (hO : FrOk adj l) {v q : Nat} (hq : Hd l v q) {x : Int} (hx : x ∈ colV adj v) : x ∈ rowsOf l (q : Int) := by
  obtain ⟨i, rfl, h1, h2⟩ := colV_nat hV hx
  rcases Nat.lt_or_ge v i with h3 | h3
  · exact fr_contains hV hn hO v q hq i h3 hx
  · obtain rfl : i = v := by omega
    obtain ⟨hCO, hS, _⟩ := hO
    have hql := hq.1
    obtain ⟨c1, c2, c3, c4⟩ := (hCO.1 q hq.1).at hq.1
    have hSq := hS q hq.1
    rw [rowsOf_get hq.1]
    have hlt : i - cE l q < l[q].2.2.1.length := by have := hSq.1; have := hq.2.2; have := hq.2.1; omega
    have := (hSq.2 (i - cE l q) (Nat.zero_le _) hlt hlt).1 (by have := hq.2.2; have := hq.2.1; omega)
    have h5 := List.getElem_mem hlt
    rw [this] at h5
    have e : l[q].1 + ((i - cE l q : Nat) : Int) = (i : Int) := by have := hq.2.1; omega
    rw [e] at h5
    exact h5
end
end Go.Fw
end

section
set_option linter.unusedSimpArgs false
set_option linter.unusedVariables false
namespace Go.Fw
theorem place_nat (a n : Int) (h : 0 < n) : ∃ m : Nat, placeV a n = (m : Int) ∧ (m : Int) < n := by
  have := placeV_lt a n h
  exact ⟨(placeV a n).toNat, by omega, by omega⟩
theorem fdK_pos {adj : List (List Int)} (h : 0 < adj.length) : 0 < (fdK adj adj.length).length := by
  classical
  have hm : (0 : Int) ∈ fdK adj adj.length := by
    unfold fdK
    rw [List.mem_map]
    exact ⟨0, List.mem_filter.2 ⟨List.mem_range.2 h, decide_eq_true (fdB_zero adj)⟩, rfl⟩
  exact List.length_pos_of_mem hm
theorem SupernodeOrder_true (n : Int) (l : List Int) : d_sparselaw21q_SupernodeOrder (n, l, ()) = some (true, ()) := by
  classical
  rw [← Ok.eq_iff]
  unfold d_sparselaw21q_SupernodeOrder
  simp only [cond_dec, awake21, Option.bind_some, Place_eq n 13 (by omega) (by omega)]
  refine Ok.ite (fun _ => Ok.some_iff.2 rfl) (fun hl => ?_)
  obtain ⟨m, hm, hm2⟩ := place_nat n 13 (by omega)
  rw [hm]
  refine Ok.bind_of (Graph_ok m l (by omega) (by omega)) ?_
  rintro ⟨⟨adj, ⟨⟩⟩, ⟨⟩⟩ ⟨hal, hV, hrow⟩
  simp only at hal hV hrow
  have hn : adj.length ≤ 200 := by omega
  simp only [(Fundamental_eq (hV.hc hn)).1, Option.bind_some]
  refine Ok.bind_of (Post_ok m l (by omega) (by omega)) ?_
  rintro ⟨⟨adj', ⟨⟩⟩, ⟨⟩⟩ ⟨hal', hb'⟩
  simp only at hal' hb'
  obtain ⟨hn', hV', hC'⟩ := bgn_zero.1 hb'
  simp only [(Fundamental_eq (hV'.hc hn')).1, Option.bind_some, Post_eq hV hn, hb', if_true, beq_self_eq_true, cond_true]
  have hbg : bgn adj = if Contig adj.length (parF adj) then 0 else 210 := by
    unfold bgn
    rw [if_neg (by simpa using chk_zero.2 ⟨hn, hV⟩)]
  have e : ((m : Int) == 0) = ((((fdK adj' adj'.length).length : Nat) : Int) == 0) := by
    rw [Bool.eq_iff_iff, beq_iff_eq, beq_iff_eq]
    rcases Nat.eq_zero_or_pos m with h | h
    · have : adj'.length = 0 := by omega
      rw [this, h]
      exact ⟨fun _ => rfl, fun _ => rfl⟩
    · have := fdK_pos (adj := adj') (by omega)
      omega
  by_cases hC : Contig adj.length (parF adj)
  · rw [if_pos hC] at hbg
    simp only [hC, hbg, decide_true, Bool.not_true, cond_false, Option.bind_some, beq_self_eq_true, cond_true, e]
    exact Ok.some_iff.2 rfl
  · rw [if_neg hC] at hbg
    simp only [hC, hbg, decide_false, Bool.not_false, cond_true, Option.bind_some, beq_self_eq_true, e]
    exact Ok.some_iff.2 rfl
theorem SupernodeMade_true (n : Int) (l : List Int) (z : Int) : d_sparselaw21q_SupernodeMade (n, l, z, ()) = some (true, ()) := by
  classical
  rw [← Ok.eq_iff]
  unfold d_sparselaw21q_SupernodeMade
  simp only [cond_dec, awake21, Option.bind_some, Place_eq n 13 (by omega) (by omega), Place_eq z 12 (by omega) (by omega)]
  refine Ok.ite (fun _ => Ok.some_iff.2 rfl) (fun hl => ?_)
  obtain ⟨m, hm, hm2⟩ := place_nat n 13 (by omega)
  obtain ⟨w, hw, hw2⟩ := place_nat z 12 (by omega)
  rw [hm, hw]
  refine Ok.bind_of (Post_ok m l (by omega) (by omega)) ?_
  rintro ⟨⟨adj, ⟨⟩⟩, ⟨⟩⟩ ⟨hal, hb⟩
  simp only at hal hb
  obtain ⟨hn, hV, hC⟩ := bgn_zero.1 hb
  have hc := hV.hc hn
  obtain ⟨f1, f2⟩ := Fundamental_eq hc
  have n1 := fdK_length adj adj.length
  have n1' : (fdK adj adj.length).length < 4611686018427387904 := by omega
  simp only [f1, f2, hb, if_true, Option.bind_some, bneI, decide_true, Bool.not_true, show (false == false) = true from rfl, cond_true, Ints_eq _ _ n1', beq_self_eq_true, cond_false]
  have hp := fd_perm hV hn
  obtain ⟨r1, r2⟩ := Relax_eq hc n1' (w : Int)
  obtain ⟨q1, q2⟩ := relax_perm hV hn hb hp (show (0 : Int) ≤ (w : Int) by omega)
  have n2 := relaxV_length adj (fdK adj adj.length) (w : Int)
  have n2' : (relaxV adj (fdK adj adj.length) (w : Int)).1.length < 4611686018427387904 := by omega
  simp only [r1, r2, q1, Option.bind_some, decide_true, Bool.not_true, show (false == false) = true from rfl, cond_true, Ints_eq _ _ n2', beq_self_eq_true, cond_false]
  generalize (relaxV adj (fdK adj adj.length) (w : Int)).1 = st at q2 n2'
  obtain ⟨g1, g2⟩ := Fronts_eq hc n2'
  obtain ⟨k, s, e, hP, hfr⟩ := fronts_of hV hn hb q2
  obtain ⟨n3, n4⟩ := frontsV_length adj st
  have n3' : (frontsV adj st).1.length < 4611686018427387904 := by omega
  obtain ⟨c1, _⟩ := Fcheck_eq (l := (frontsV adj st).1) hc n3' (fun x hx => by have := n4 x hx; omega)
  have hfc : fcV adj (frontsV adj st).1 = 0 := by
    unfold fcV
    rw [if_neg (by simpa using chk_zero.2 ⟨hn, hV⟩), if_pos (by rw [hfr]; exact fr_ok hV hn hC hP)]
  have h0 : (frontsV adj st).2 = 0 := by rw [hfr]
  simp only [g1, g2, h0, Option.bind_some, beq_self_eq_true, cond_true, kitFronts_eq _ _ n3' (fun x hx => by have := n4 x hx; omega), decide_true, c1, hfc]
  exact Ok.some_iff.2 rfl
end Go.Fw
end

section
set_option linter.unusedSimpArgs false
set_option linter.unusedVariables false
namespace Go.Fw
/-- The zeros of the supernodes on a stack. -/
def ChainZ (adj : List (List Int)) (z : Int) : List Nat → Nat → Prop
  | [], _ => True
  | b :: r, x => (zV adj b x : Int) ≤ z ∧ ChainZ adj z r b
theorem chainZ_at {adj : List (List Int)} {z : Int} : ∀ {st : List Nat} {x : Nat}, ChainZ adj z st x → ∀ k, (h : k < (toL st).length) → (zV adj (toL st)[k].toNat (nxI (toL st) x k).toNat : Int) ≤ z := by
  intro st
  induction st with
  | nil => intro x _ k h; simp [toL] at h
  | cons b r ih =>
    intro x hc k hk
    obtain ⟨c1, c2⟩ := hc
    have e := toL_cons b r
    have hl := toL_length r
    have hlc : (toL (b :: r)).length = r.length + 1 := by rw [e, List.length_append]; simp [hl]
    rcases Nat.lt_or_ge k r.length with h | h
    · have hk' : k < (toL r).length := by omega
      have i1 := ih c2 k hk'
      have e1 : (toL (b :: r))[k] = (toL r)[k] := by simp only [e]; rw [List.getElem_append_left hk']
      have e2 : nxI (toL (b :: r)) x k = nxI (toL r) b k := by
        unfold nxI
        rw [e]
        rcases Nat.lt_or_ge (k + 1) r.length with h2 | h2
        · rw [List.getElem?_append_left (by omega), List.getElem?_eq_getElem (by omega)]; rfl
        · rw [List.getElem?_append_right (by omega), List.getElem?_eq_none (show (toL r).length ≤ k + 1 by omega)]
          have : k + 1 - (toL r).length = 0 := by omega
          rw [this]; rfl
      rw [e1, e2]
      exact i1
    · have hkr : k = r.length := by omega
      subst hkr
      have e1 : (toL (b :: r))[r.length] = (b : Int) := by
        simp only [e]
        rw [List.getElem_append_right (by omega)]; simp
      have e2 : nxI (toL (b :: r)) x r.length = (x : Int) := by
        unfold nxI
        rw [List.getElem?_eq_none (by omega)]; rfl
      rw [e1, e2, Int.toNat_natCast, Int.toNat_natCast]
      exact c1
section
variable {adj : List (List Int)} (hV : Valid adj) (hn : adj.length ≤ 200)
include hV hn
theorem pop_Z {z : Int} {last : Nat} : ∀ {st : List Nat} {f : Nat}, (zV adj f last : Int) ≤ z → ChainZ adj z st f → ChainZ adj z ((rlxPop adj z last st f).2 :: (rlxPop adj z last st f).1) last
  | [], f, h1, h2 => ⟨h1, trivial⟩
  | b :: r, f, h1, h2 => by
      simp only [rlxPop]
      split
      · rename_i hc
        exact pop_Z hc.2.2 h2.2
      · exact ⟨h1, h2⟩
theorem pop_mem {z : Int} {last : Nat} : ∀ {st : List Nat} {f : Nat} {x : Nat}, x ∈ (rlxPop adj z last st f).2 :: (rlxPop adj z last st f).1 → x ∈ f :: st
  | [], f, x, h => h
  | b :: r, f, x, h => by
      simp only [rlxPop] at h
      split at h
      · exact List.mem_cons_of_mem _ (pop_mem h)
      · exact h
theorem rlx_Z {z : Int} {starts : List Int} {m : Nat} {s e : Nat → Nat} (hP : PN adj.length (parF adj) starts m s e) (h0 : ∀ k, k < m → (zV adj (s k) (e k) : Int) ≤ z) : ∀ k, k ≤ m → ∀ x, (x = (if k < m then s k else adj.length)) → ChainZ adj z (rlx adj z s e k) x ∧ ∀ b ∈ rlx adj z s e k, (b : Int) ∈ starts := by
  intro k
  induction k with
  | zero => intro _ x _; exact ⟨trivial, fun b hb => by cases hb⟩
  | succ k ih =>
    intro hk x hx
    obtain ⟨i1, i2⟩ := ih (by omega) (s k) (by rw [if_pos (by omega)])
    have := pop_Z hV hn (z := z) (last := e k) (h0 k (by omega)) i1
    have hxe : x = e k := by
      rw [hx]
      split
      · rename_i h; exact (hP.ek k h).symm
      · exact (hP.el k (by omega)).symm
    rw [hxe]
    refine ⟨this, fun b hb => ?_⟩
    simp only [rlx] at hb
    rcases List.mem_cons.1 (pop_mem hV hn hb) with h | h
    · rw [h, hP.st]
      exact mem_fT.2 ⟨k, by omega, rfl⟩
    · exact i2 b h
theorem relax_of {starts : List Int} {z : Int} (hb : bgn adj = 0) (h : PermI adj.length (parF adj) starts) (hz : 0 ≤ z) : ∃ m s e, PN adj.length (parF adj) starts m s e ∧ relaxV adj starts z = (toL (rlx adj z s e m), 0) := by
  refine ⟨_, _, _, h.nat.choose_spec.choose_spec.choose_spec, ?_⟩
  unfold relaxV
  rw [if_neg (by simpa using hb), dif_pos ⟨h, hz⟩]
/-- Fundamental supernodes have no zeros. -/
theorem fd_zero {m : Nat} {s e : Nat → Nat} (hP : PN adj.length (parF adj) (fdK adj adj.length) m s e) {k : Nat} (hk : k < m) : zV adj (s k) (e k) = 0 := by
  classical
  obtain ⟨g1, g2, g3⟩ := hP.ok k hk
  have hnot : ∀ j, s k < j → j < e k → ¬ fdB adj j := fun j h1 h2 hb => by
    have hm : (j : Int) ∈ fdK adj adj.length := by
      unfold fdK
      rw [List.mem_map]
      exact ⟨j, List.mem_filter.2 ⟨List.mem_range.2 (by omega), decide_eq_true hb⟩, rfl⟩
    rw [hP.st] at hm
    obtain ⟨q, hq, e1⟩ := mem_fT.1 hm
    have hsq : s q = j := by omega
    have hq2 := hP.ok q hq
    have := hP.uniq (p := j) hk hq (by omega) h2 (by omega) (by omega)
    subst this
    omega
  have hcol : ∀ i, i ≤ e k - 1 - s k → (colV adj (e k - 1 - i)).length = (colV adj (e k - 1)).length + i := by
    intro i
    induction i with
    | zero => intro _; rfl
    | succ i ih =>
      intro hi
      have h1 := ih (by omega)
      have h2 := hnot (e k - 1 - i) (by omega) (by omega)
      have h3 : 0 < e k - 1 - i ∧ parF adj (e k - 1 - i - 1) = ((e k - 1 - i : Nat) : Int) ∧ (kidsV (parF adj) (e k - 1 - i) (e k - 1 - i)).length = 1 ∧ (colV adj (e k - 1 - i - 1)).length = (colV adj (e k - 1 - i)).length + 1 := by
        by_cases h : 0 < e k - 1 - i ∧ parF adj (e k - 1 - i - 1) = ((e k - 1 - i : Nat) : Int) ∧ (kidsV (parF adj) (e k - 1 - i) (e k - 1 - i)).length = 1 ∧ (colV adj (e k - 1 - i - 1)).length = (colV adj (e k - 1 - i)).length + 1
        · exact h
        · exact absurd h h2
      have e1 : e k - 1 - (i + 1) = e k - 1 - i - 1 := by omega
      rw [e1, h3.2.2.2, h1]
      omega
  have hlen := rowsV_length hV hn g1
  have key : ∀ j, j ≤ e k - s k → zK adj (s k) (e k) j = 0 := by
    intro j
    induction j with
    | zero => intro _; rfl
    | succ j ih =>
      intro hj
      have h1 := hcol (e k - 1 - s k - j) (by omega)
      have e1 : e k - 1 - (e k - 1 - s k - j) = s k + j := by omega
      rw [e1] at h1
      simp only [zK, ih (by omega), h1, hlen]
      omega
  exact key _ (Nat.le_refl _)
end
theorem SupernodeZeros_true (n : Int) (l : List Int) (z : Int) : d_sparselaw21q_SupernodeZeros (n, l, z, ()) = some (true, ()) := by
  classical
  rw [← Ok.eq_iff]
  unfold d_sparselaw21q_SupernodeZeros
  simp only [cond_dec, awake21, Option.bind_some, Place_eq n 13 (by omega) (by omega), Place_eq z 12 (by omega) (by omega)]
  refine Ok.ite (fun _ => Ok.some_iff.2 rfl) (fun hl => ?_)
  obtain ⟨m, hm, hm2⟩ := place_nat n 13 (by omega)
  obtain ⟨w, hw, hw2⟩ := place_nat z 12 (by omega)
  rw [hm, hw]
  refine Ok.bind_of (Post_ok m l (by omega) (by omega)) ?_
  rintro ⟨⟨adj, ⟨⟩⟩, ⟨⟩⟩ ⟨hal, hb⟩
  simp only at hal hb
  subst hal
  obtain ⟨hn, hV, hC⟩ := bgn_zero.1 hb
  have hf := pf_parF hV hn
  have hc := hV.hc hn
  obtain ⟨f1, f2⟩ := Fundamental_eq hc
  have n1 := fdK_length adj adj.length
  have n1' : (fdK adj adj.length).length < 4611686018427387904 := by omega
  have hp := fd_perm hV hn
  obtain ⟨m1, s1, e1, hP1⟩ := hp.nat
  obtain ⟨r1, _⟩ := Relax_eq hc n1' (w : Int)
  obtain ⟨m2, s2, e2, hPc, hr⟩ := relax_of hV hn hb hp (show (0 : Int) ≤ (w : Int) by omega)
  have n2 := relaxV_length adj (fdK adj adj.length) (w : Int)
  rw [hr] at n2 r1
  have hp2 := rlx_perm hV hn (z := (w : Int)) hC hPc
  obtain ⟨hz1, hz2⟩ := rlx_Z hV hn (z := (w : Int)) hPc (fun k hk => by rw [fd_zero hV hn hPc hk]; omega) m2 (Nat.le_refl _) adj.length (by rw [if_neg (Nat.lt_irrefl _)])
  have hz3 := chainZ_at hz1
  have hz4 : ∀ x ∈ toL (rlx adj (w : Int) s2 e2 m2), x ∈ fdK adj adj.length := fun x hx => by
    unfold toL at hx
    obtain ⟨b, hb, rfl⟩ := List.mem_map.1 hx
    exact hz2 b (List.mem_reverse.1 hb)
  simp only [f1, hb, if_true, r1, Option.bind_some, bneI, decide_true, Bool.not_true, show (false == false) = true from rfl, cond_true, cond_false]
  simp only at n2
  generalize toL (rlx adj (w : Int) s2 e2 m2) = B at n2 r1 hp2 hz3 hz4
  have n2' : B.length < 4611686018427387904 := by omega
  obtain ⟨m3, s3, e3, hP3⟩ := hp2.nat
  simp only [refPermitted_eq hV hn _ n1', refPermitted_eq hV hn _ n2', hp, hp2, decide_true, Bool.not_true, show (false == false) = true from rfl, cond_true, cond_false, Option.bind_some, refColumns_fT hV hn]
  -- the boundaries of a partition
  have bound : ∀ {st : List Int} {m : Nat} {s e : Nat → Nat}, PN adj.length (parF adj) st m s e → ∀ k, k < m → getI st (k : Int) = some (s k : Int) ∧
      (if IntKind.i64.wrap ((k : Int) + 1) < (st.length : Int) then (getI st (IntKind.i64.wrap ((k : Int) + 1))).bind fun y => some (IntKind.i64.wrap (y - 1), ()) else some (IntKind.i64.wrap ((adj.length : Int) - 1), ())) = some (((e k - 1 : Nat) : Int), ()) := by
    intro st m s e hP k hk
    have hml := hP.m_le
    have hlen := hP.len
    obtain ⟨g1, g2, g3⟩ := hP.ok k hk
    refine ⟨by rw [hP.st, getI_fT hk], ?_⟩
    rw [wrap_inc (by omega)]
    by_cases h4 : k + 1 < m
    · have : getI st ((k + 1 : Nat) : Int) = some (s (k + 1) : Int) := by rw [hP.st, getI_fT h4]
      have hek := hP.ek k h4
      rw [if_pos (by omega), this]
      simp only [Option.bind_some]
      rw [wrap_pred (by omega) (by omega), hek]
    · have hel := hP.el k (by omega)
      rw [if_neg (by omega), wrap_pred (by omega) (by omega), hel]
  refine Ok.bind_of (P := fun q => q = .inl ()) ?_ ?_
  · refine Ok.of_eq (loop_for (τ := Unit) (r := .inl ()) m1 (fun _ => ()) 0 rfl rfl (Nat.zero_le _) ?_ ?_) rfl
    · intro k _ hk
      obtain ⟨g1, g2, g3⟩ := hP1.ok k hk
      obtain ⟨q1, q2⟩ := bound hP1 k hk
      have hlen := hP1.len
      rw [if_pos (by omega)]
      simp only [q2, q1, Option.bind_some, refZeros_eq hV hn g1 g2 (fun j h5 h6 => hP1.sub hf hC hk j h5 h6), fd_zero hV hn hP1 hk]
      rw [wrap_inc (by have := hP1.m_le; omega)]
      rfl
    · have hlen := hP1.len
      rw [if_neg (by omega)]
  · rintro _ rfl
    simp only
    refine Ok.bind_of (P := fun q => q = .inl ()) ?_ (by rintro _ rfl; exact Ok.some_iff.2 rfl)
    refine Ok.of_eq (loop_for (τ := Unit) (r := .inl ()) m3 (fun _ => ()) 0 rfl rfl (Nat.zero_le _) ?_ ?_) rfl
    · intro k _ hk
      obtain ⟨g1, g2, g3⟩ := hP3.ok k hk
      obtain ⟨q1, q2⟩ := bound hP3 k hk
      have hlen := hP3.len
      have hkB : k < B.length := by omega
      have hBk : B[k] = (s3 k : Int) := by
        have := q1
        rw [getN_some (List.getElem?_eq_getElem hkB)] at this
        exact Option.some.inj this
      have hin : (s3 k : Int) ∈ fdK adj adj.length := by rw [← hBk]; exact hz4 _ (List.getElem_mem hkB)
      have hzk := hz3 k hkB
      rw [hBk, hP3.nx k hk, Int.toNat_natCast, Int.toNat_natCast] at hzk
      have hng : ¬ ((zV adj (s3 k) (e3 k) : Int) > (w : Int)) := by omega
      rw [if_pos (by omega)]
      simp only [q2, q1, Option.bind_some, In_eq _ _ n1', hin, decide_true, Bool.not_true, show (false == false) = true from rfl, cond_true, refZeros_eq hV hn g1 g2 (fun j h5 h6 => hP3.sub hf hC hk j h5 h6), if_neg hng]
      rw [wrap_inc (by have := hP3.m_le; omega)]
    · have hlen := hP3.len
      rw [if_neg (by omega)]
end Go.Fw
end

section
set_option linter.unusedSimpArgs false
set_option linter.unusedVariables false
namespace Go.Fw
theorem PN.permI {n : Nat} {f : Nat → Int} {starts : List Int} {m : Nat} {s e : Nat → Nat} (h : PN n f starts m s e) : PermI n f starts := by
  rcases Nat.eq_zero_or_pos n with h0 | h0
  · have := h.mz h0
    subst this
    exact .inl ⟨h0, by rw [h.st]; rfl⟩
  · obtain ⟨h1, h2⟩ := h.s0 h0
    refine .inr ⟨h0, by rw [h.st, fT_get h1, h2]; rfl, fun k hk => ?_⟩
    have hkm : k < m := by rw [← h.len]; exact hk
    obtain ⟨g1, g2, g3⟩ := h.ok k hkm
    have hsk : starts[k] = (s k : Int) := by
      have h5 : starts[k]? = some (s k : Int) := by rw [h.st, fT_get hkm]
      rw [List.getElem?_eq_getElem hk] at h5
      exact Option.some.inj h5
    rw [hsk, h.nx k hkm]
    have e1 : ((e k : Int) - 1).toNat = e k - 1 := by omega
    rw [e1]
    omega
theorem single_PN {n : Nat} {f : Nat → Int} (hf : PF n f) : PN n f (fT n fun v => (v : Int)) n (fun k => k) (fun k => k + 1) where
  len := fT_length _ _
  st := rfl
  s0 := fun h => ⟨h, rfl⟩
  mz := fun h => h
  ok := fun k hk => ⟨Nat.lt_succ_self k, hk, by have := sz_pos (f := f) hk; simp only [Nat.add_sub_cancel]; omega⟩
  nx := fun k hk => by
    unfold nxI
    rw [fT_get?]
    split
    · simp
    · simp only [Option.getD_none]; omega
  ek := fun k _ => rfl
  el := fun k h => h
theorem SupernodeSingles_true (n : Int) (l : List Int) : d_sparselaw21q_SupernodeSingles (n, l, ()) = some (true, ()) := by
  classical
  rw [← Ok.eq_iff]
  unfold d_sparselaw21q_SupernodeSingles
  simp only [cond_dec, awake21, Option.bind_some, Place_eq n 13 (by omega) (by omega)]
  refine Ok.ite (fun _ => Ok.some_iff.2 rfl) (fun hl => ?_)
  obtain ⟨m, hm, hm2⟩ := place_nat n 13 (by omega)
  rw [hm]
  refine Ok.bind_of (Post_ok m l (by omega) (by omega)) ?_
  rintro ⟨⟨adj, ⟨⟩⟩, ⟨⟩⟩ ⟨hal, hb⟩
  simp only at hal hb
  subst hal
  obtain ⟨hn, hV, hC⟩ := bgn_zero.1 hb
  have hf := pf_parF hV hn
  have hc := hV.hc hn
  refine Ok.bind_of (Ok.of_eq (loop_for (r := ((adj, ()), fT adj.length (fun v => (v : Int)), ())) adj.length (fun k => ((adj, ()), fT k (fun v => (v : Int)), ())) 0 rfl rfl (Nat.zero_le _) ?_ ?_) (rfl : _ = _)) ?_
  · intro k _ hk
    rw [if_pos (by omega)]
    simp (disch := omega) only [fT_length, List.length_singleton, limO_ok, Option.bind_some, wrap_inc, fT_succ]
  · rw [if_neg (by omega)]
  · rintro _ rfl
    have hP := single_PN hf
    have hfr := Fronts_ok hV hn hb (starts := fT adj.length fun v => (v : Int)) (by rw [fT_length]; omega) hP.permI hP
    simp only [hfr, Columns_ok hV hc hn, Option.bind_some, bneI, decide_true, Bool.not_true, show (false == false) = true from rfl, cond_true, cond_false, fT_length]
    have hcl : ((List.range adj.length).map (colV adj)).length = adj.length := by simp
    simp only [hcl, decide_true, Bool.not_true, cond_false, Option.bind_some]
    refine Ok.bind_of (P := fun q => q = .inl ()) ?_ (by rintro _ rfl; exact Ok.some_iff.2 rfl)
    refine Ok.of_eq (loop_for (τ := Unit) (r := .inl ()) adj.length (fun _ => ()) 0 rfl rfl (Nat.zero_le _) ?_ ?_) rfl
    · intro v _ hv
      have hcv : getI ((List.range adj.length).map (colV adj)) (v : Int) = some (colV adj v) := getN_some (by simp [hv])
      have hcvl := colV_length adj v
      have hF := forest_of hV hn
      have hpc := par_of_col hV hF hv
      rw [fT_get hv] at hpc
      have hfv : getI (fT adj.length (frV adj adj.length (fun k => k) (fun k => k + 1))) (v : Int) = some (frV adj adj.length (fun k => k) (fun k => k + 1) v) := getI_fT hv
      have hrows : rowsV adj v (v + 1) = colV adj v := by
        unfold rowsV
        simp only [Nat.add_sub_cancel, Nat.sub_self]
        rfl
      have hp : (if ((((colV adj v).length : Nat) : Int) > 1) then (getI (colV adj v) 1).bind fun y21 => some (y21, ()) else some ((-1 : Int), ())) = some (parF adj v, ()) := by
        rcases hpc with ⟨h1, h2⟩ | ⟨p, r, h1, h2, _⟩
        · rw [Option.some.inj h2, h1]
          rfl
        · rw [Option.some.inj h2, h1]
          have : getI ((v : Int) :: (p : Int) :: r) 1 = some (p : Int) := getN_some (i := 1) rfl
          rw [if_pos (by simp; omega), this]; rfl
      have hfr4 : (frV adj adj.length (fun k => k) (fun k => k + 1) v).2.2.2.1 = parF adj v := by
        show (if v < adj.length ∧ 0 ≤ parF adj (v + 1 - 1) then lastLe (fun k => k) (parF adj (v + 1 - 1)).toNat adj.length else -1) = _
        rw [Nat.add_sub_cancel]
        rcases hf v hv with h | h
        · rw [if_neg (by omega), h]
        · obtain ⟨p, hp⟩ : ∃ p : Nat, parF adj v = (p : Int) := ⟨(parF adj v).toNat, by omega⟩
          rw [if_pos ⟨hv, by omega⟩, hp, Int.toNat_natCast]
          exact hP.lastLe (k := p) (by omega) (Nat.le_refl _) (Nat.lt_succ_self _) _ (by omega) (Nat.le_refl _)
      have hfr1 : (frV adj adj.length (fun k => k) (fun k => k + 1) v).1 = (v : Int) := rfl
      have hfr2 : (frV adj adj.length (fun k => k) (fun k => k + 1) v).2.1 = ((v + 1 : Nat) : Int) := rfl
      have hfr3 : (frV adj adj.length (fun k => k) (fun k => k + 1) v).2.2.1 = colV adj v := hrows
      rw [if_pos (by omega)]
      simp only [hcv, Option.bind_some, hp, hfv, hfr1, hfr2, hfr3, hfr4, decide_true, Bool.not_true, show (false == false) = true from rfl, cond_true, cond_false, wrap_inc (show v + 1 < 9223372036854775808 by omega), Ints_eq _ _ (show (colV adj v).length < 4611686018427387904 by omega), beq_self_eq_true]
    · rw [if_neg (by omega)]
end Go.Fw
end
