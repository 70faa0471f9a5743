/-
  Parts of the proof: Pl36, Pl37: the framework (Fw), pure forms (Dn), plain laws (Pl, Th), calls of functions (Ok).
-/
import Derived.Test.YtojgmlfnbchloaaBa55e147a

set_option linter.all false
section
set_option linter.unusedSimpArgs false
set_option linter.unusedVariables false
namespace Go.Fw
theorem partition_ok {adj : List (List Int)} (hb : bgn adj = 0) (drop : List Bool) : Ok (d_sparselaw21q_partition ((adj, ()), drop, ())) (fun r => PermI adj.length (parF adj) r.1 ∧ r.1.length ≤ 200) := by
  classical
  obtain ⟨hn, hV, hC⟩ := bgn_zero.1 hb
  have hc := hV.hc hn
  obtain ⟨_, f2⟩ := Fundamental_eq hc
  have n1 := fdK_length adj adj.length
  unfold d_sparselaw21q_partition
  simp only [f2, hb, if_true, Option.bind_some]
  refine Ok.bind_of (P := fun q => PermI adj.length (parF adj) q.1 ∧ q.1.length ≤ 200) ?_ (by rintro ⟨q, ⟨⟩⟩ h; exact Ok.some_iff.2 h)
  refine Ok.loop (fun s => PermI adj.length (parF adj) s.1 ∧ s.1.length ≤ 200 ∧ (s.2.1 ≤ 0 ∨ ∃ k : Nat, s.2.1 = (k : Int) ∧ 1 ≤ k ∧ k < s.1.length)) (fun s => s.2.1.toNat) ⟨fd_perm hV hn, by show (fdK adj adj.length).length ≤ 200; omega, ?_⟩ ?_
  · show IntKind.i64.wrap (((fdK adj adj.length).length : Int) - 1) ≤ 0 ∨ _
    rw [wrap64 (by omega) (by omega)]
    rcases Nat.lt_or_ge 1 (fdK adj adj.length).length with h | h
    · exact .inr ⟨(fdK adj adj.length).length - 1, by show ((fdK adj adj.length).length : Int) - 1 = _; omega, by omega, by show _ < (fdK adj adj.length).length; omega⟩
    · left; omega
  · rintro ⟨all, k', ⟨⟩⟩ ⟨hp, hl, hk⟩
    simp only at hp hl hk
    rcases hk with hk | ⟨k, rfl, hk1, hkl⟩
    · simp only [cond_dec]
      rw [if_neg (by omega)]
      exact Ok.some_iff.2 ⟨hp, hl⟩
    · simp only [cond_dec]
      rw [if_pos (by omega)]
      have hw : IntKind.i64.wrap ((k : Int) - 1) = ((k - 1 : Nat) : Int) := wrap_pred hk1 (by omega)
      refine Ok.bind_of (P := fun q => PermI adj.length (parF adj) q.1 ∧ q.1.length ≤ 200 ∧ k ≤ q.1.length) ?_ ?_
      · simp only [cond_dec_beqF]
        have skip : Ok (Option.bind (α := Unit ⊕ (List Int × Unit)) (some (.inr (all, ()))) fun q => match q with | .inl _ => (none : Option (List Int × Unit)) | .inr r => some r) (fun q => PermI adj.length (parF adj) q.1 ∧ q.1.length ≤ 200 ∧ k ≤ q.1.length) :=
          Ok.some_iff.2 ⟨hp, hl, by show k ≤ all.length; omega⟩
        by_cases h1 : (k : Int) ≥ (drop.length : Int)
        · rw [if_pos h1]
          exact Ok.some_iff.2 ⟨hp, hl, by show k ≤ all.length; omega⟩
        · rw [if_neg h1, getN_some (List.getElem?_eq_getElem (show k < drop.length by omega))]
          simp only [Option.bind_some]
          by_cases h2 : drop[k]'(by omega) = true
          · have t1 : (all.take k).drop 0 = all.take k := rfl
            have t2 : (all.take all.length).drop (k + 1) = all.drop (k + 1) := by rw [List.take_length]
            have l1 : (all.take k).length = k := by rw [List.length_take]; omega
            have l2 : (all.drop (k + 1)).length = all.length - (k + 1) := List.length_drop
            simp (disch := omega) only [h2, Bool.not_true, cond_false, Option.bind_some, natO_ok, leO_ok, Option.map_some, t1, limO_ok, wrap_inc, t2, l1, l2]
            have l3 : (all.take k ++ all.drop (k + 1)).length = all.length - 1 := by rw [List.length_append, l1, l2]; omega
            rw [refPermitted_eq hV hn _ (by omega)]
            simp only [Option.bind_some]
            by_cases h3 : PermI adj.length (parF adj) (all.take k ++ all.drop (k + 1))
            · rw [decT h3]
              exact Ok.some_iff.2 ⟨h3, by show (all.take k ++ all.drop (k + 1)).length ≤ 200; omega, by show k ≤ (all.take k ++ all.drop (k + 1)).length; omega⟩
            · rw [decF h3]
              exact Ok.some_iff.2 ⟨hp, hl, by show k ≤ all.length; omega⟩
          · have h2' : drop[k]'(by omega) = false := by simpa using h2
            simp only [h2', Bool.not_false, cond_true, Option.bind_some]
            exact Ok.some_iff.2 ⟨hp, hl, by show k ≤ all.length; omega⟩
      · rintro ⟨all', ⟨⟩⟩ ⟨q1, q2, q3⟩
        simp only at q1 q2 q3
        simp only [hw]
        refine Ok.some_iff.2 ⟨⟨q1, q2, ?_⟩, ?_⟩
        · rcases Nat.lt_or_ge 1 k with h | h
          · exact .inr ⟨k - 1, rfl, by omega, by show k - 1 < all'.length; omega⟩
          · left
            show ((k - 1 : Nat) : Int) ≤ 0
            omega
        · show ((k - 1 : Nat) : Int).toNat < ((k : Nat) : Int).toNat
          omega
/-- The parent of an accepted front. -/
theorem FrOk.parent {adj : List (List Int)} {l : List FrT} (hO : FrOk adj l) {k : Nat} (hk : k < l.length) : (l[k].2.2.2.1 = -1 ∨ ∃ p : Nat, l[k].2.2.2.1 = (p : Int) ∧ p < l.length) ∧
    ∀ i, (hi : i < l[k].2.2.1.length) → l[k].2.1 ≤ l[k].2.2.1[i] → ∃ p : Nat, l[k].2.2.2.1 = (p : Int) ∧ p < l.length ∧ l[k].2.2.1[i] ∈ rowsOf l (p : Int) := by
  obtain ⟨hCO, hS, hL, _⟩ := hO
  obtain ⟨c1, c2, c3, c4⟩ := (hCO.1 k hk).at hk
  have hSk := hS k hk
  rcases hL k hk with ⟨h1, h2⟩ | ⟨h1, h2, h3⟩
  · refine ⟨.inl h2, fun i hi hle => ?_⟩
    have := (hSk.2 i (Nat.zero_le _) hi hi).1 (by omega)
    omega
  · have hro := (hSk.2 _ (Nat.zero_le _) h1 h1).2 (Nat.le_refl _)
    obtain ⟨w, hw⟩ : ∃ w : Nat, l[k].2.2.1[(l[k].2.1 - l[k].1).toNat] = (w : Int) := ⟨(l[k].2.2.1[(l[k].2.1 - l[k].1).toNat]).toNat, by omega⟩
    rw [hw] at hro
    obtain ⟨p, hp1, hp2, hp3⟩ := cE_cover hCO (show w < adj.length by omega)
    have hlast := Hd.last hCO (⟨hp1, hp2, hp3⟩ : Hd l w p)
    rw [hw, Int.toNat_natCast, hlast] at h2
    refine ⟨.inr ⟨p, h2, hp1⟩, fun i hi hle => ?_⟩
    refine ⟨p, h2, hp1, ?_⟩
    have hio : (l[k].2.1 - l[k].1).toNat ≤ i := by
      rcases Nat.lt_or_ge i (l[k].2.1 - l[k].1).toNat with h4 | h4
      · have := (hSk.2 i (Nat.zero_le _) hi hi).1 h4
        omega
      · exact h4
    have := h3 i hio hi
    rw [h2] at this
    exact this
theorem SupernodeFronts_true (n : Int) (l : List Int) (drop : List Bool) : d_sparselaw21q_SupernodeFronts (n, l, drop, ()) = some (true, ()) := by
  classical
  rw [← Ok.eq_iff]
  unfold d_sparselaw21q_SupernodeFronts
  simp only [cond_dec, awake21, Option.bind_some, Place_eq n 13 (by omega) (by omega)]
  refine Ok.ite (fun _ => Ok.some_iff.2 rfl) (fun hl => ?_)
  obtain ⟨m, hm, hm2⟩ := place_nat n 13 (by omega)
  rw [hm]
  refine Ok.bind_of (Post_ok m l (by omega) (by omega)) ?_
  rintro ⟨⟨adj, ⟨⟩⟩, ⟨⟩⟩ ⟨hal, hb⟩
  simp only at hal hb
  subst hal
  obtain ⟨hn, hV, hC⟩ := bgn_zero.1 hb
  have hf := pf_parF hV hn
  have hc := hV.hc hn
  refine Ok.bind_of (partition_ok hb drop) ?_
  rintro ⟨st, ⟨⟩⟩ ⟨hp, hstl⟩
  simp only at hp hstl
  have n2' : st.length < 4611686018427387904 := by omega
  obtain ⟨g1, _⟩ := Fronts_eq hc n2'
  obtain ⟨mm, s, e, hP, hfr⟩ := fronts_of hV hn hb hp
  obtain ⟨n3, n4⟩ := frontsV_length adj st
  have n3' : (frontsV adj st).1.length < 4611686018427387904 := by omega
  obtain ⟨c1, _⟩ := Fcheck_eq (l := (frontsV adj st).1) hc n3' (fun x hx => by have := n4 x hx; omega)
  have hO : FrOk adj (frontsV adj st).1 := by rw [hfr]; exact fr_ok hV hn hC hP
  have hfc : fcV adj (frontsV adj st).1 = 0 := by
    unfold fcV
    rw [if_neg (by simpa using chk_zero.2 ⟨hn, hV⟩), if_pos hO]
  have h0 : (frontsV adj st).2 = 0 := by rw [hfr]
  have hcl : ((List.range adj.length).map (colV adj)).length = adj.length := by simp
  simp only [g1, h0, Columns_ok hV hc hn, c1, hfc, Option.bind_some, bneI, decide_true, Bool.not_true, show (false == false) = true from rfl, cond_true, cond_false, hcl]
  have hcv : ∀ j, j < adj.length → getI ((List.range adj.length).map (colV adj)) (j : Int) = some (colV adj j) := fun j hj => getN_some (by simp [hj])
  generalize (List.range adj.length).map (colV adj) = C at hcv
  generalize (frontsV adj st).1 = L at *
  refine Ok.bind_of (P := fun q => q = .inl ((adj.length : Int), ())) ?_ ?_
  · refine Ok.count (fun s => s.2.1) L.length (fun k s => s.1 = (cE L k : Int)) (i0 := 0) rfl rfl (Nat.zero_le _) ?_ ?_
    · rintro k ⟨at_, k', ⟨⟩⟩ _ hk ek hat
      simp only at ek hat
      subst ek hat
      have hgk := getN_some (List.getElem?_eq_getElem hk)
      obtain ⟨q1, q2, q3, q4⟩ := (hO.1.1 k hk).at hk
      obtain ⟨p1, p2⟩ := hO.parent hk
      have hlk := n4 _ (List.getElem_mem hk)
      have hpb : ¬ (L[k].2.2.2.1 ≥ (L.length : Int)) ∧ ¬ (L[k].2.2.2.1 < -1) := by
        rcases p1 with h | ⟨p, h, h'⟩ <;> omega
      dsimp only
      rw [if_pos (by omega)]
      simp only [hgk, Option.bind_some, cond_dec_beqF, decT q1, Bool.not_true, show (false == false) = true from rfl, cond_true, if_neg (show ¬ L[k].2.1 ≤ (cE L k : Int) by omega), if_neg (show ¬ L[k].2.1 > (adj.length : Int) by omega), if_neg hpb.1, if_neg hpb.2]
      refine Ok.bind_of (P := fun q => q = .inl ((cE L (k + 1) : Int), ())) ?_ (by rintro _ rfl; exact Ok.some_iff.2 ⟨wrap_inc (by omega), rfl⟩)
      rw [q1]
      refine Ok.bind_of (P := fun q => q = .inl ()) ?_ ?_
      · refine Ok.of_eq (loop_for (τ := Unit) (r := .inl ()) (cE L (k + 1)) (fun _ => ()) (cE L k) rfl rfl (by omega) ?_ ?_) rfl
        · intro j h1 h2
          have hjn : j < adj.length := by omega
          have hcj := colV_length adj j
          rw [if_pos (by omega)]
          refine bind_eq (loop_for (τ := Unit) (r := .inl ()) (colV adj j).length (fun _ => ()) 0 rfl rfl (Nat.zero_le _) ?_ ?_) ?_
          · intro i _ hi
            have hin : (colV adj j)[i] ∈ L[k].2.2.1 := by
              have := fr_contains' hV hn hO (⟨hk, h1, h2⟩ : Hd L j k) (List.getElem_mem hi)
              rw [rowsOf_get hk] at this
              exact this
            simp only [hcv j hjn, Option.bind_some]
            rw [if_pos (by omega)]
            simp (disch := omega) only [getN_some (List.getElem?_eq_getElem hi), Option.bind_some, In_eq _ _ (show L[k].2.2.1.length < 4611686018427387904 by omega), hin, decide_true, Bool.not_true, cond_false, wrap_inc]
          · simp only [hcv j hjn, Option.bind_some]
            rw [if_neg (by omega)]
          · simp (disch := omega) only [wrap_inc]
        · rw [if_neg (by omega)]
      · rintro _ rfl
        simp only
        refine Ok.bind_of (P := fun q => q = .inl ()) ?_ (by rintro _ rfl; exact Ok.some_iff.2 (by rw [q2]))
        refine Ok.of_eq (loop_for (τ := Unit) (r := .inl ()) L[k].2.2.1.length (fun _ => ()) 0 rfl rfl (Nat.zero_le _) ?_ ?_) rfl
        · intro i _ hi
          rw [if_pos (by omega)]
          simp only [getN_some (List.getElem?_eq_getElem hi), Option.bind_some, cond_dec_beq]
          by_cases h3 : L[k].2.2.1[i] ≥ L[k].2.1
          · obtain ⟨p, h4, h5, h6⟩ := p2 i hi h3
            have hlp := n4 _ (List.getElem_mem h5)
            rw [rowsOf_get h5] at h6
            rw [if_pos h3]
            simp (disch := omega) only [h4, if_neg, getN_some (List.getElem?_eq_getElem h5), Option.bind_some, In_eq _ _ (show L[p].2.2.1.length < 4611686018427387904 by omega), h6, decide_true, Bool.not_true, cond_false, wrap_inc]
          · rw [if_neg h3]
            simp (disch := omega) only [Option.bind_some, wrap_inc]
        · rw [if_neg (by omega)]
    · rintro ⟨at_, k', ⟨⟩⟩ ek hat
      simp only at ek hat
      subst ek hat
      dsimp only
      rw [if_neg (by omega)]
      exact Ok.some_iff.2 (by rw [hO.1.2])
  · rintro _ rfl
    simp
    exact Ok.some_iff.2 rfl
end Go.Fw
end

section
set_option linter.unusedSimpArgs false
set_option linter.unusedVariables false
namespace Go.Fw
theorem SupernodeContains_true (n : Int) (l : List Int) (drop : List Bool) (more : List Int) : d_sparselaw21q_SupernodeContains (n, l, drop, more, ()) = some (true, ()) := by
  classical
  rw [← Ok.eq_iff]
  unfold d_sparselaw21q_SupernodeContains
  refine Ok.bind_of (P := fun q => q = .inr (true, ()) ∨ (q = .inl () ∧ l.length ≤ 80 ∧ more.length ≤ 20)) ?_ ?_
  · simp only [cond_dec_beqF]
    by_cases h1 : ((l.length : Nat) : Int) > 80
    · rw [if_pos h1]
      simp only [Option.bind_some, cond_true, awake21]
      exact Ok.some_iff.2 (.inl rfl)
    · rw [if_neg h1]
      simp only [Option.bind_some, cond_dec, awake21]
      by_cases h2 : ((more.length : Nat) : Int) > 20
      · rw [if_pos h2]; exact Ok.some_iff.2 (.inl rfl)
      · rw [if_neg h2]; exact Ok.some_iff.2 (.inr ⟨rfl, by omega, by omega⟩)
  rintro q (rfl | ⟨rfl, hl, hmore⟩)
  · exact Ok.some_iff.2 rfl
  simp only [Place_eq n 11 (by omega) (by omega), Option.bind_some]
  obtain ⟨m, hm, hm2⟩ := place_nat n 11 (by omega)
  rw [hm]
  refine Ok.bind_of (Post_ok m l (by omega) (by omega)) ?_
  rintro ⟨⟨adj, ⟨⟩⟩, ⟨⟩⟩ ⟨hal, hb⟩
  simp only at hal hb
  subst hal
  obtain ⟨hn, hV, hC⟩ := bgn_zero.1 hb
  have hf := pf_parF hV hn
  have hc := hV.hc hn
  refine Ok.bind_of (partition_ok hb drop) ?_
  rintro ⟨st, ⟨⟩⟩ ⟨hp, hstl⟩
  simp only at hp hstl
  have n2' : st.length < 4611686018427387904 := by omega
  obtain ⟨_, g1⟩ := Fronts_eq hc n2'
  obtain ⟨mm, s, e, hP, hfr⟩ := fronts_of hV hn hb hp
  obtain ⟨n3, n4⟩ := frontsV_length adj st
  have hmn := hP.m_le
  have hfl : (frontsV adj st).1.length = mm := by rw [hfr]; exact fT_length _ _
  simp only [g1, Option.bind_some]
  generalize (frontsV adj st).1 = L0 at *
  refine Ok.bind_of (P := fun q => q.1 = (adj, ()) ∧ q.2.1.length = mm ∧ ∀ x ∈ q.2.1, x.2.2.1.length ≤ 400) ?_ ?_
  · refine Ok.loop (fun s => ∃ i : Nat, s.1 = (i : Int) ∧ s.2.1 = (adj, ()) ∧ s.2.2.1.length = mm ∧ (∀ x ∈ s.2.2.1, x.2.2.1.length ≤ 400) ∧ i ≤ 40) (fun s => 100 - s.1.toNat) ⟨0, rfl, rfl, hfl, n4, by omega⟩ ?_
    rintro ⟨i', g, f, ⟨⟩⟩ ⟨i, hi, hg, hfm, hfr', hi40⟩
    simp only at hi hg hfm hfr'
    subst hi hg
    simp (disch := omega) only [wrap_inc, cond_dec_beq, cond_dec]
    by_cases h1 : ((i + 1 : Nat) : Int) < (more.length : Int)
    · rw [if_pos h1]
      by_cases h2 : ((f.length : Nat) : Int) > 0
      · rw [if_pos h2]
        simp only [Option.bind_some]
        have hn0 : 0 < adj.length := by omega
        have ga : getI more (i : Int) = some (more[i]'(by omega)) := getN_some (List.getElem?_eq_getElem (by omega))
        have gb : getI more ((i + 1 : Nat) : Int) = some (more[i + 1]'(by omega)) := getN_some (List.getElem?_eq_getElem (by omega))
        obtain ⟨k, hk, hk2⟩ := place_nat (more[i]'(by omega)) (f.length : Int) (by omega)
        obtain ⟨r, hr, hr2⟩ := place_nat (more[i + 1]'(by omega)) (adj.length : Int) (by omega)
        have hkl : k < f.length := by omega
        have hk? := List.getElem?_eq_getElem hkl
        have hlk := hfr' _ (List.getElem_mem hkl)
        simp only [ga, gb, Option.bind_some, Place_eq _ (f.length : Int) (by omega) (by omega), Place_eq _ (adj.length : Int) (by omega) (by omega), hk, hr]
        refine Ok.bind_of (P := fun q => q.1 = (adj, ()) ∧ q.2.1 = f ∧ q.2.2.1.length ≤ adj.length) ?_ ?_
        · refine Ok.for adj.length (fun v t => t.1 = (adj, ()) ∧ t.2.1 = f ∧ t.2.2.1.length ≤ v) (i0 := 0) rfl ⟨rfl, rfl, Nat.le_refl _⟩ (Nat.zero_le _) ?_ ?_
          · rintro v ⟨g, f', rows, ⟨⟩⟩ _ hv ⟨hg, hf', hrl⟩
            simp only at hg hf' hrl
            subst hg hf'
            simp (disch := omega) only [if_pos, idxN_nat, Option.bind_some, atO_some hk?, In_eq _ _ (show f'[k].2.2.1.length < 4611686018427387904 by omega)]
            refine Ok.bind_of (P := fun q => q.1 = (adj, ()) ∧ q.2.1 = f' ∧ q.2.2.1.length ≤ v + 1) ?_ (by rintro ⟨g, f2, rows', ⟨⟩⟩ h; exact Ok.some_iff.2 ⟨wrap_inc (by omega), h⟩)
            refine Ok.bind_of (P := fun q => q.2.1 = (adj, ()) ∧ q.2.2.1 = f' ∧ q.2.2.2.1 = rows) ?_ ?_
            · by_cases h5 : (v : Int) ∈ f'[k].2.2.1
              · simp only [h5, decide_true, show (true == false) = false from rfl, cond_false]
                exact Ok.some_iff.2 ⟨rfl, rfl, rfl⟩
              · simp only [h5, decide_false, show (false == false) = true from rfl, cond_true]
                cases hvr : ((v : Int) == (r : Int)) == true with
                | true => exact Ok.some_iff.2 ⟨rfl, rfl, rfl⟩
                | false => exact Ok.some_iff.2 ⟨rfl, rfl, rfl⟩
            · rintro ⟨b, g, f2, rows', ⟨⟩⟩ ⟨h6, h7, h8⟩
              simp only at h6 h7 h8
              subst h6 h7 h8
              cases b with
              | true =>
                simp (disch := omega) only [cond_true, List.length_singleton, limO_ok, Option.bind_some]
                exact Ok.some_iff.2 ⟨rfl, rfl, by simp; omega⟩
              | false =>
                simp only [cond_false]
                exact Ok.some_iff.2 ⟨rfl, rfl, by show rows'.length ≤ v + 1; omega⟩
          · rintro ⟨g, f', rows, ⟨⟩⟩ ⟨hg, hf', hrl⟩
            simp only at hg hf' hrl
            subst hg hf'
            simp (disch := omega) only [if_neg]
            exact Ok.some_iff.2 ⟨rfl, rfl, hrl⟩
        · rintro ⟨g, f', rows, ⟨⟩⟩ ⟨hg, hf', hrl⟩
          simp only at hg hf' hrl
          subst hg hf'
          simp (disch := omega) only [idxN_nat, Option.bind_some, atO_some hk?]
          have hw : IntKind.i64.wrap ((i : Int) + 2) = ((i + 2 : Nat) : Int) := by rw [wrap64 (by omega) (by omega)]; omega
          refine Ok.some_iff.2 ⟨⟨i + 2, hw, rfl, by simp [hfm], fun x hx => ?_, by omega⟩, ?_⟩
          · rcases List.mem_or_eq_of_mem_set hx with h | h
            · exact hfr' x h
            · rw [h]; show rows.length ≤ 400; omega
          · show 100 - (IntKind.i64.wrap ((i : Int) + 2)).toNat < 100 - ((i : Nat) : Int).toNat
            rw [hw]; omega
      · rw [if_neg h2]
        exact Ok.some_iff.2 ⟨rfl, hfm, hfr'⟩
    · rw [if_neg h1]
      exact Ok.some_iff.2 ⟨rfl, hfm, hfr'⟩
  · rintro ⟨g, L, ⟨⟩⟩ ⟨hg, hLm, hLr⟩
    simp only at hg hLm hLr
    subst hg
    obtain ⟨c1, c2⟩ := Fcheck_eq (l := L) hc (by omega) (fun x hx => by have := hLr x hx; omega)
    have hcl : ((List.range adj.length).map (colV adj)).length = adj.length := by simp
    simp only [c1, c2, Option.bind_some, bneI, decide_true, Bool.not_true, cond_false, awake21]
    by_cases h0 : fcV adj L = 0
    rotate_left
    · simp only [decF h0, Bool.not_false, cond_true]
      exact Ok.some_iff.2 rfl
    have hO : FrOk adj L := by
      unfold fcV at h0
      rw [if_neg (by simpa using chk_zero.2 ⟨hn, hV⟩)] at h0
      by_cases h : FrOk adj L
      · exact h
      · rw [if_neg h] at h0; omega
    simp only [h0, decide_true, Bool.not_true, cond_false, Columns_ok hV hc hn, Option.bind_some, show (false == false) = true from rfl, cond_true, hcl]
    have hcv : ∀ j, j < adj.length → getI ((List.range adj.length).map (colV adj)) (j : Int) = some (colV adj j) := fun j hj => getN_some (by simp [hj])
    generalize (List.range adj.length).map (colV adj) = C at hcv
    refine Ok.bind_of (P := fun q => q = .inl ()) ?_ (by rintro _ rfl; exact Ok.some_iff.2 rfl)
    refine Ok.of_eq (loop_for (r := .inl ()) L.length (fun _ => (L, ())) 0 rfl rfl (Nat.zero_le _) ?_ ?_) rfl
    · intro k _ hk
      have hk? := List.getElem?_eq_getElem hk
      obtain ⟨q1, q2, q3, q4⟩ := (hO.1.1 k hk).at hk
      have hlk := hLr _ (List.getElem_mem hk)
      simp (disch := omega) only [cond_dec, if_pos, idxN_nat, Option.bind_some, atO_some hk?, q1]
      refine bind_eq (y := Sum.inl (L, ())) ?_ (by simp (disch := omega) only [wrap_inc])
      refine loop_for (r := Sum.inl (L, ())) (cE L (k + 1)) (fun _ => (L, ())) (cE L k) rfl rfl (by omega) ?_ ?_
      · intro j h1 h2
        have hjn : j < adj.length := by omega
        have hcj := colV_length adj j
        simp (disch := omega) only [idxN_nat, Option.bind_some, atO_some hk?, q2, if_pos]
        refine bind_eq (y := Sum.inl (L, ())) ?_ (by simp (disch := omega) only [wrap_inc])
        refine loop_for (r := Sum.inl (L, ())) (colV adj j).length (fun _ => (L, ())) 0 rfl rfl (Nat.zero_le _) ?_ ?_
        · intro i _ hi
          have hin : (colV adj j)[i] ∈ L[k].2.2.1 := by
            have := fr_contains' hV hn hO (⟨hk, h1, h2⟩ : Hd L j k) (List.getElem_mem hi)
            rw [rowsOf_get hk] at this
            exact this
          simp (disch := omega) only [hcv j hjn, Option.bind_some, if_pos, idxN_nat, atO_some hk?, getN_some (List.getElem?_eq_getElem hi), In_eq _ _ (show L[k].2.2.1.length < 4611686018427387904 by omega), hin, decide_true, Bool.not_true, cond_false, wrap_inc]
        · simp (disch := omega) only [hcv j hjn, Option.bind_some, if_neg]
      · simp (disch := omega) only [idxN_nat, Option.bind_some, atO_some hk?, q2, if_neg]
    · simp (disch := omega) only [cond_dec, if_neg]
end Go.Fw
end
