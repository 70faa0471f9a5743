/-
  Parts of the proof: Pl54, Pl55: the framework (Fw), pure forms (Dn), plain laws (Pl, Th), calls of functions (Ok).
-/
import Derived.Test.YtjkaiaioghjnoaaBdbdd068d

set_option linter.all false
section
namespace Go.Fw
set_option linter.unusedSimpArgs false
set_option linter.unusedVariables false
open Go
def posN (o : List Int) (x : Nat) : Nat := o.idxOf (x : Int)
section
variable {o : List Int} {n : Nat} (hp : IsPerm o n)
include hp
theorem IsPerm.mem {x : Nat} (hx : x < n) : (x : Int) ∈ o := by
  apply Classical.byContradiction
  intro hno
  obtain ⟨h1, h2, h3⟩ := hp
  have e : o = natL (o.map Int.toNat) := by
    unfold natL
    rw [List.map_map]
    conv => lhs; rw [← List.map_id o]
    refine List.map_congr_left fun y h => ?_
    have := h2 y h
    simp only [id, Function.comp]
    omega
  have hd : (o.map Int.toNat).Nodup := by
    rw [List.nodup_iff_pairwise_ne, List.pairwise_map]
    refine (List.pairwise_iff_getElem.2 fun i j hi hj hij => ?_)
    have a := h2 _ (List.getElem_mem hi)
    have b := h2 _ (List.getElem_mem hj)
    have := List.pairwise_iff_getElem.1 (List.nodup_iff_pairwise_ne.1 h3) i j hi hj hij
    omega
  have hne : x ∉ o.map Int.toNat := fun h => hno (by rw [e]; exact mem_natL.2 h)
  have := nodup_le (n := n) (List.nodup_cons.2 ⟨hne, hd⟩) (fun y hy => by
    rcases List.mem_cons.1 hy with rfl | hy
    · exact hx
    · obtain ⟨z, hz, rfl⟩ := List.mem_map.1 hy
      have := h2 z hz
      omega)
  rw [List.length_cons, List.length_map] at this
  omega
theorem IsPerm.pos {x : Nat} (hx : x < n) : posN o x < n ∧ ordN o (posN o x) = x := by
  have h := hp.mem hx
  have h1 : posN o x < o.length := List.idxOf_lt_length_iff.2 h
  refine ⟨by rw [← hp.1]; exact h1, ?_⟩
  unfold ordN
  rw [getD_lt h1, show o[posN o x] = (x : Int) from List.getElem_idxOf h1]
  simp
theorem IsPerm.pos_ord {k : Nat} (hk : k < n) : posN o (ordN o k) = k := by
  have h1 := (hp.get hk).2
  obtain ⟨h2, h3⟩ := hp.pos h1
  exact hp.inj h2 hk h3
theorem positions_eq (hn : n ≤ 4000) : d_rcm_positions (o, ()) = some (fT n (fun x => (posN o x : Int)), ()) := by
  have hl := hp.1
  unfold d_rcm_positions
  dsimp only
  rw [hl]
  simp (disch := omega) only [madeO_ok, Option.bind_some, fT_replicate]
  refine bindR (fT n (fun x => (posN o x : Int)), ()) rfl (loop_for n (fun k => (fT n (fun x => if posN o x < k then (posN o x : Int) else 0), ())) 0 rfl ?_ (Nat.zero_le _) ?_ ?_)
  · exact congrArg (fun a => (a, ())) (fT_congr fun x _ => by rw [if_neg (by omega)])
  · intro k _ hk
    obtain ⟨h1, h2⟩ := hp.get hk
    simp (disch := omega) only [cond_dec, if_pos, h1, Option.bind_some, fT_length, idxN_nat, atO_fT, fT_set, wrap_inc]
    refine congrArg (fun a => some (Sum.inl (((k + 1 : Nat) : Int), a, ()))) (fT_congr fun x hx => ?_)
    simp only [upd]
    by_cases c : x = ordN o k
    · rw [if_pos c, c, hp.pos_ord hk, if_pos (by omega)]
    · rw [if_neg c]
      have : posN o x ≠ k := fun e => c (by rw [← e, (hp.pos hx).2])
      by_cases c2 : posN o x < k
      · rw [if_pos c2, if_pos (by omega)]
      · rw [if_neg c2, if_neg (by omega)]
  · simp (disch := omega) only [cond_dec, if_neg]
    exact congrArg (fun a => some (Sum.inr (a, ()))) (fT_congr fun x hx => by rw [if_pos (hp.pos hx).1])
theorem Invert_eq (hn : n ≤ 4000) : d_sparsekit_Invert (o, ()) = some (fT n (fun x => (posN o x : Int)), ()) := positions_eq hp hn
end
def fsK (adj : List (List Int)) (o : List Int) (k j : Nat) : Nat := ((adj.getD (ordN o k) []).take j).foldl (fun m x => if posN o x.toNat < m then posN o x.toNat else m) k
def fsV (adj : List (List Int)) (o : List Int) (k : Nat) : Nat := fsK adj o k (adj.getD (ordN o k) []).length
theorem fsK_succ (adj : List (List Int)) (o : List Int) (k : Nat) {j : Nat} (h : j < (adj.getD (ordN o k) []).length) :
    fsK adj o k (j + 1) = if posN o ((adj.getD (ordN o k) [])[j]).toNat < fsK adj o k j then posN o ((adj.getD (ordN o k) [])[j]).toNat else fsK adj o k j := by
  unfold fsK
  rw [← take_snoc h, List.foldl_append]
  rfl
def hdV (adj : List (List Int)) (o : List Int) (k : Nat) : Nat := k - fsV adj o k
def prK (adj : List (List Int)) (o : List Int) (k : Nat) : Nat := ((List.range k).map (hdV adj o)).sum
def bdK (adj : List (List Int)) (o : List Int) (k : Nat) : Nat := ((List.range k).map (hdV adj o)).foldl max 0
theorem prK_succ (adj : List (List Int)) (o : List Int) (k : Nat) : prK adj o (k + 1) = prK adj o k + hdV adj o k := by
  unfold prK; rw [List.range_succ, List.map_append, List.sum_append]; simp
theorem bdK_succ (adj : List (List Int)) (o : List Int) (k : Nat) : bdK adj o (k + 1) = max (bdK adj o k) (hdV adj o k) := by
  unfold bdK; rw [List.range_succ, List.map_append, List.foldl_append]; rfl
theorem bdK_ge (adj : List (List Int)) (o : List Int) {k j : Nat} (h : j < k) : hdV adj o j ≤ bdK adj o k := by
  induction k with
  | zero => omega
  | succ k ih =>
    rw [bdK_succ]
    rcases Nat.lt_or_ge j k with h1 | h1
    · have := ih h1; omega
    · obtain rfl : j = k := by omega
      omega
theorem bdK_is (adj : List (List Int)) (o : List Int) (k : Nat) : bdK adj o k = 0 ∨ ∃ j, j < k ∧ bdK adj o k = hdV adj o j := by
  induction k with
  | zero => exact .inl rfl
  | succ k ih =>
    rw [bdK_succ]
    rcases Nat.le_total (bdK adj o k) (hdV adj o k) with h | h
    · exact .inr ⟨k, by omega, by omega⟩
    · rcases ih with ih | ⟨j, h1, h2⟩
      · exact .inl (by omega)
      · exact .inr ⟨j, by omega, by omega⟩
theorem hdV_le (adj : List (List Int)) (o : List Int) (k : Nat) : hdV adj o k ≤ k := by unfold hdV; omega
theorem prK_le (adj : List (List Int)) (o : List Int) (k : Nat) : prK adj o k ≤ k * k := by
  induction k with
  | zero => exact Nat.le_refl _
  | succ k ih =>
    rw [prK_succ]
    have := hdV_le adj o k
    have e : (k + 1) * (k + 1) = k * k + 2 * k + 1 := by rw [Nat.add_mul, Nat.mul_add]; omega
    omega
section
variable {adj : List (List Int)} (hV : Valid adj) {o : List Int} (hp : IsPerm o adj.length)
include hV hp
theorem fsV_is {k : Nat} (hk : k < adj.length) : fsV adj o k ≤ k ∧ (∀ w, Nb adj (ordN o k) w → fsV adj o k ≤ posN o w) ∧ (fsV adj o k = k ∨ ∃ w, Nb adj (ordN o k) w ∧ posN o w = fsV adj o k) := by
  have ho := (hp.get hk).2
  have hget : adj.getD (ordN o k) [] = adj[ordN o k] := getD_lt ho []
  have key : ∀ j, j ≤ (adj.getD (ordN o k) []).length → fsK adj o k j ≤ k ∧ (∀ w : Nat, (w : Int) ∈ (adj.getD (ordN o k) []).take j → fsK adj o k j ≤ posN o w) ∧ (fsK adj o k j = k ∨ ∃ w, Nb adj (ordN o k) w ∧ posN o w = fsK adj o k j) := by
    intro j
    induction j with
    | zero => intro _; exact ⟨by simp [fsK], by simp, .inl (by simp [fsK])⟩
    | succ j ih =>
      intro hj
      obtain ⟨i1, i2, i3⟩ := ih (by omega)
      obtain ⟨w, hw, hwn⟩ := nb_get hV ho (j := j) (by rw [← hget]; omega)
      have hw' : (adj.getD (ordN o k) [])[j]'(by omega) = (w : Int) := by simp only [hget]; exact hw
      rw [fsK_succ adj o k (by omega), hw', Int.toNat_natCast]
      have hnb : Nb adj (ordN o k) w := ⟨ho, by rw [← hw]; exact List.getElem_mem _⟩
      have hts := take_mem_succ (show j < (adj.getD (ordN o k) []).length by omega) hw'
      by_cases c : posN o w < fsK adj o k j
      · rw [if_pos c]
        refine ⟨by omega, fun x hx => ?_, .inr ⟨w, hnb, rfl⟩⟩
        rcases (hts x).1 hx with hx | rfl
        · have := i2 x hx; omega
        · omega
      · rw [if_neg c]
        refine ⟨i1, fun x hx => ?_, i3⟩
        rcases (hts x).1 hx with hx | rfl
        · exact i2 x hx
        · omega
  obtain ⟨k1, k2, k3⟩ := key _ (Nat.le_refl _)
  refine ⟨k1, fun w hw => k2 w ?_, k3⟩
  rw [List.take_length, hget]
  exact hw.2
theorem band_uniq {b : Nat} (h1 : ∀ v w, Nb adj v w → posN o v ≤ posN o w + b) (h2 : b = 0 ∨ ∃ v w, Nb adj v w ∧ posN o v = posN o w + b) : b = bdK adj o adj.length := by
  have a1 : ∀ v w, Nb adj v w → posN o v ≤ posN o w + bdK adj o adj.length := by
    intro v w h
    obtain ⟨v1, w1⟩ := h.lt hV
    obtain ⟨p1, p2⟩ := hp.pos v1
    obtain ⟨f1, f2, f3⟩ := fsV_is hV hp p1
    have := bdK_ge adj o p1
    have := f2 w (by rw [p2]; exact h)
    unfold hdV at *
    omega
  rcases bdK_is adj o adj.length with h | ⟨j, hj, h⟩
  · rcases h2 with h2 | ⟨v, w, h3, h4⟩
    · omega
    · have := a1 v w h3; omega
  · obtain ⟨f1, f2, f3⟩ := fsV_is hV hp hj
    have hlow : bdK adj o adj.length ≤ b := by
      rcases f3 with f3 | ⟨w, f3, f4⟩
      · unfold hdV at h; omega
      · have := h1 _ _ f3
        rw [hp.pos_ord hj] at this
        unfold hdV at h; omega
    rcases h2 with h2 | ⟨v, w, h3, h4⟩
    · omega
    · have := a1 v w h3; omega
theorem refFirst_eq (hn : adj.length ≤ 4000) (hc : ∀ l ∈ adj, l.length < 4611686018427387904) : d_sparseref17q_First ((adj, ()), o, ()) = some (fT adj.length (fun k => (fsV adj o k : Int)), ()) := by
  unfold d_sparseref17q_First
  simp only [Invert_eq hp hn, Option.bind_some, hp.1]
  refine bindR (fT adj.length (fun k => (fsV adj o k : Int)), ()) rfl (loop_for adj.length (fun k => (fT k (fun k => (fsV adj o k : Int)), ())) 0 rfl rfl (Nat.zero_le _) ?_ ?_)
  · intro k _ hk
    obtain ⟨h1, h2⟩ := hp.get hk
    have hga : getI adj ((ordN o k : Nat) : Int) = some adj[ordN o k] := getN_some (List.getElem?_eq_getElem h2)
    have hget : adj.getD (ordN o k) [] = adj[ordN o k] := getD_lt h2 []
    have hvl := (hV.asc _ h2).length
    simp (disch := omega) only [cond_dec, if_pos, h1, hga, Option.bind_some]
    refine bindR ((fsV adj o k : Int), fT k (fun k => (fsV adj o k : Int)), ()) ?_ (loop_seq adj[ordN o k].length (fun j => ((fsK adj o k j : Int), (j : Int), fT k (fun k => (fsV adj o k : Int)), ())) 0 (by simp [fsK]) (Nat.zero_le _) ?_ ?_)
    · simp (disch := first | omega | (simp [fT_length]; omega)) only [limO_ok, Option.bind_some, wrap_inc, fT_succ]
    · intro j _ hj
      obtain ⟨w, hw, hwn⟩ := nb_get hV h2 hj
      have hgj : getI adj[ordN o k] (j : Int) = some (w : Int) := getN_some (by rw [List.getElem?_eq_getElem hj, hw])
      have hgp : getI (fT adj.length (fun x => (posN o x : Int))) (w : Int) = some (posN o w : Int) := getN_some (fT_get hwn)
      have hw' : (adj.getD (ordN o k) [])[j]'(by rw [hget]; exact hj) = (w : Int) := by simp only [hget]; exact hw
      rw [fsK_succ adj o k (by rw [hget]; exact hj), hw', Int.toNat_natCast]
      simp (disch := omega) only [cond_dec, if_pos, hgj, hgp, Option.bind_some, wrap_inc]
      by_cases c : posN o w < fsK adj o k j
      · rw [if_pos (by omega), if_pos c]
      · rw [if_neg (by omega), if_neg c]
    · simp (disch := omega) only [cond_dec, if_neg]
      unfold fsV; rw [hget]
  · simp (disch := omega) only [cond_dec, if_neg]
theorem refBandwidth_ok (hn : adj.length ≤ 200) : d_sparseref17q_Bandwidth ((adj, ()), o, ()) = some ((bdK adj o adj.length : Int), 0, ()) := by
  have h0 : permE adj o = 0 := perm_iff hn hV hp
  have hck : chk adj = 0 := chk_zero.2 ⟨hn, hV⟩
  have hl : ((o.length : Nat) : Int) = ((adj.length : Nat) : Int) := by rw [hp.1]
  classical
  have hc : d_sparseref17q_check ((adj, ()), o, ()) = some (0, ()) := by
    unfold d_sparseref17q_check
    simp only [refCheck_eq adj (hV.hc hn), hck, Option.bind_some, bne_self_eq_false, cond_false, hl, Perm_eq o adj.length (by omega), decT hp, Bool.not_true]
  unfold d_sparseref17q_Bandwidth
  simp only [hc, Option.bind_some, bne_self_eq_false, cond_false, refFirst_eq hV hp (by omega) (hV.hc hn), fT_length]
  refine bindR ((bdK adj o adj.length : Int), ()) rfl (loop_seq adj.length (fun k => ((bdK adj o k : Int), (k : Int), ())) 0 rfl (Nat.zero_le _) ?_ ?_)
  · intro k _ hk
    have hg : getI (fT adj.length (fun k => (fsV adj o k : Int))) (k : Int) = some (fsV adj o k : Int) := getN_some (fT_get hk)
    have hf := (fsV_is hV hp hk).1
    simp (disch := omega) only [cond_dec, if_pos, hg, Option.bind_some, wrap_sub, wrap_inc, bdK_succ]
    have e : hdV adj o k = k - fsV adj o k := rfl
    by_cases c : ((k - fsV adj o k : Nat) : Int) > (bdK adj o k : Int)
    · rw [if_pos c, Nat.max_eq_right (by omega), e]
    · rw [if_neg c, Nat.max_eq_left (by omega)]
  · simp (disch := omega) only [cond_dec, if_neg]
theorem refProfile_ok (hn : adj.length ≤ 200) : d_sparseref17q_Profile ((adj, ()), o, ()) = some ((prK adj o adj.length : Int), 0, ()) := by
  have h0 : permE adj o = 0 := perm_iff hn hV hp
  have hck : chk adj = 0 := chk_zero.2 ⟨hn, hV⟩
  have hl : ((o.length : Nat) : Int) = ((adj.length : Nat) : Int) := by rw [hp.1]
  classical
  have hc : d_sparseref17q_check ((adj, ()), o, ()) = some (0, ()) := by
    unfold d_sparseref17q_check
    simp only [refCheck_eq adj (hV.hc hn), hck, Option.bind_some, bne_self_eq_false, cond_false, hl, Perm_eq o adj.length (by omega), decT hp, Bool.not_true]
  unfold d_sparseref17q_Profile
  simp only [hc, Option.bind_some, bne_self_eq_false, cond_false, refFirst_eq hV hp (by omega) (hV.hc hn), fT_length]
  refine bindR ((prK adj o adj.length : Int), ()) rfl (loop_seq adj.length (fun k => ((prK adj o k : Int), (k : Int), ())) 0 rfl (Nat.zero_le _) ?_ ?_)
  · intro k _ hk
    have hg : getI (fT adj.length (fun k => (fsV adj o k : Int))) (k : Int) = some (fsV adj o k : Int) := getN_some (fT_get hk)
    have hf := (fsV_is hV hp hk).1
    have hpk := prK_le adj o k
    have hkk : k * k ≤ 200 * 200 := Nat.mul_le_mul (by omega) (by omega)
    have e1 : prK adj o k + k - fsV adj o k = prK adj o (k + 1) := by rw [prK_succ]; unfold hdV; omega
    simp (disch := omega) only [cond_dec, if_pos, hg, Option.bind_some, wrap_add, wrap_sub, wrap_inc, e1]
  · simp (disch := omega) only [cond_dec, if_neg]
theorem Bandwidth_ok (hn : adj.length ≤ 12) : d_rcm_Bandwidth ((adj, ()), o, ()) = some ((bdK adj o adj.length : Int), 0, ()) := by
  have h0 : permE adj o = 0 := perm_iff (by omega) hV hp
  unfold d_rcm_Bandwidth
  simp only [Permuted_eq (hV.hc (by omega)) o (fun _ _ => hn) (by rw [hp.1]; omega), h0, Option.bind_some, bne_self_eq_false, cond_false, positions_eq hp (show adj.length ≤ 4000 by omega)]
  rw [← Ok.eq_iff]
  refine Ok.bind_of (P := fun r => r = ((bdK adj o adj.length : Int), ())) ?_ (by rintro _ rfl; exact Ok.some_iff.2 rfl)
  refine Ok.seq adj.length (fun i s => ∃ b : Nat, s = ((b : Int), (i : Int), ()) ∧ (∀ v w, v < i → Nb adj v w → posN o v ≤ posN o w + b) ∧ (b = 0 ∨ ∃ v w, Nb adj v w ∧ posN o v = posN o w + b)) 0 ⟨0, rfl, fun v w h => by omega, .inl rfl⟩ (Nat.zero_le _) ?_ ?_
  · rintro i _ _ hi ⟨b, rfl, hb1, hb2⟩
    have hga : getI adj (i : Int) = some adj[i] := getN_some (List.getElem?_eq_getElem hi)
    have hvl := (hV.asc _ hi).length
    have hpi := (hp.pos hi).1
    have hgi : getI (fT adj.length (fun x => (posN o x : Int))) (i : Int) = some (posN o i : Int) := getN_some (fT_get hi)
    simp (disch := omega) only [cond_dec, if_pos, hga, Option.bind_some]
    refine Ok.bind_of (P := fun s => ∃ b : Nat, s = ((b : Int), ()) ∧ (∀ v w, v < i + 1 → Nb adj v w → posN o v ≤ posN o w + b) ∧ (b = 0 ∨ ∃ v w, Nb adj v w ∧ posN o v = posN o w + b)) ?_ ?_
    · refine Ok.seq adj[i].length (fun j s => ∃ b : Nat, s = ((b : Int), (j : Int), ()) ∧ (∀ v w, v < i → Nb adj v w → posN o v ≤ posN o w + b) ∧ (∀ w : Nat, (w : Int) ∈ adj[i].take j → posN o i ≤ posN o w + b) ∧ (b = 0 ∨ ∃ v w, Nb adj v w ∧ posN o v = posN o w + b)) 0 ⟨b, rfl, hb1, by simp, hb2⟩ (Nat.zero_le _) ?_ ?_
      · rintro j _ _ hj ⟨b, rfl, hb1, hb3, hb2⟩
        obtain ⟨w, hw, hwn⟩ := nb_get hV hi hj
        have hgj : getI adj[i] (j : Int) = some (w : Int) := getN_some (by rw [List.getElem?_eq_getElem hj, hw])
        have hgp : getI (fT adj.length (fun x => (posN o x : Int))) (w : Int) = some (posN o w : Int) := getN_some (fT_get hwn)
        have hpw := (hp.pos hwn).1
        have hnb : Nb adj i w := ⟨hi, by rw [← hw]; exact List.getElem_mem _⟩
        have hts := take_mem_succ hj hw
        have hwr : IntKind.i64.wrap ((posN o i : Int) - (posN o w : Int)) = (posN o i : Int) - (posN o w : Int) := by rw [wrap64] <;> omega
        simp (disch := omega) only [cond_dec, if_pos, hgj, hgi, hgp, Option.bind_some, wrap_inc, hwr]
        by_cases c : (posN o i : Int) - (posN o w : Int) > (b : Int)
        · rw [if_pos c]
          refine Ok.some_iff.2 ⟨posN o i - posN o w, ?_, fun v x h1 h2 => ?_, fun x hx => ?_, .inr ⟨i, w, hnb, by omega⟩⟩
          · rw [show ((posN o i - posN o w : Nat) : Int) = (posN o i : Int) - (posN o w : Int) by omega]
          · have := hb1 v x h1 h2; omega
          · rcases (hts x).1 hx with hx | rfl
            · have := hb3 x hx; omega
            · omega
        · rw [if_neg c]
          refine Ok.some_iff.2 ⟨b, rfl, hb1, fun x hx => ?_, hb2⟩
          rcases (hts x).1 hx with hx | rfl
          · exact hb3 x hx
          · omega
      · rintro _ ⟨b, rfl, hb1, hb3, hb2⟩
        simp (disch := omega) only [cond_dec, if_neg]
        rw [List.take_length] at hb3
        refine Ok.some_iff.2 ⟨b, rfl, fun v w h1 h2 => ?_, hb2⟩
        by_cases e : v = i
        · subst e; exact hb3 w h2.2
        · exact hb1 v w (by omega) h2
    · rintro _ ⟨b, rfl, hb1, hb2⟩
      simp (disch := omega) only [wrap_inc]
      exact Ok.some_iff.2 ⟨b, rfl, hb1, hb2⟩
  · rintro _ ⟨b, rfl, hb1, hb2⟩
    simp (disch := omega) only [cond_dec, if_neg]
    rw [band_uniq hV hp (b := b) (fun v w h => hb1 v w (h.lt hV).1 h) hb2]
    exact Ok.some_iff.2 rfl
theorem Profile_ok (hn : adj.length ≤ 12) : d_rcm_Profile ((adj, ()), o, ()) = some ((prK adj o adj.length : Int), 0, ()) := by
  have h0 : permE adj o = 0 := perm_iff (by omega) hV hp
  unfold d_rcm_Profile
  simp only [Permuted_eq (hV.hc (by omega)) o (fun _ _ => hn) (by rw [hp.1]; omega), h0, Option.bind_some, bne_self_eq_false, cond_false, positions_eq hp (show adj.length ≤ 4000 by omega), hp.1]
  refine bindR ((prK adj o adj.length : Int), ()) rfl (loop_seq adj.length (fun k => ((prK adj o k : Int), (k : Int), ())) 0 rfl (Nat.zero_le _) ?_ ?_)
  · intro k _ hk
    obtain ⟨h1, h2⟩ := hp.get hk
    have hga : getI adj ((ordN o k : Nat) : Int) = some adj[ordN o k] := getN_some (List.getElem?_eq_getElem h2)
    have hget : adj.getD (ordN o k) [] = adj[ordN o k] := getD_lt h2 []
    have hvl := (hV.asc _ h2).length
    simp (disch := omega) only [cond_dec, if_pos, h1, hga, Option.bind_some]
    refine bindR ((fsV adj o k : Int), ()) ?_ (loop_seq adj[ordN o k].length (fun j => ((fsK adj o k j : Int), (j : Int), ())) 0 (by simp [fsK]) (Nat.zero_le _) ?_ ?_)
    · have hf := (fsV_is hV hp hk).1
      have hpk := prK_le adj o k
      have hkk : k * k ≤ 12 * 12 := Nat.mul_le_mul (by omega) (by omega)
      have e1 : prK adj o k + (k - fsV adj o k) = prK adj o (k + 1) := by rw [prK_succ]; rfl
      simp (disch := omega) only [Option.bind_some, wrap_sub, wrap_add, wrap_inc, e1]
    · intro j _ hj
      obtain ⟨w, hw, hwn⟩ := nb_get hV h2 hj
      have hgj : getI adj[ordN o k] (j : Int) = some (w : Int) := getN_some (by rw [List.getElem?_eq_getElem hj, hw])
      have hgp : getI (fT adj.length (fun x => (posN o x : Int))) (w : Int) = some (posN o w : Int) := getN_some (fT_get hwn)
      have hw' : (adj.getD (ordN o k) [])[j]'(by rw [hget]; exact hj) = (w : Int) := by simp only [hget]; exact hw
      rw [fsK_succ adj o k (by rw [hget]; exact hj), hw', Int.toNat_natCast]
      simp (disch := omega) only [cond_dec, if_pos, hgj, hgp, Option.bind_some, wrap_inc]
      by_cases c : posN o w < fsK adj o k j
      · rw [if_pos (by omega), if_pos c]
      · rw [if_neg (by omega), if_neg c]
    · simp (disch := omega) only [cond_dec, if_neg]
      unfold fsV; rw [hget]
  · simp (disch := omega) only [cond_dec, if_neg]
end
end Go.Fw
end

section
namespace Go.Fw
set_option linter.unusedSimpArgs false
set_option linter.unusedVariables false
open Go
theorem subset_le : ∀ {l m : List Nat}, l.Nodup → (∀ x ∈ l, x ∈ m) → l.length ≤ m.length := by
  intro l
  induction l with
  | nil => intro m _ _; exact Nat.zero_le _
  | cons a l ih =>
    intro m hd h
    obtain ⟨h1, h2⟩ := List.nodup_cons.1 hd
    have ha := h a (List.mem_cons_self ..)
    have := ih (m := m.erase a) h2 (fun x hx => (List.mem_erase_of_ne (fun e => by subst e; exact h1 hx)).2 (h x (List.mem_cons_of_mem _ hx)))
    rw [List.length_erase_of_mem ha] at this
    have := List.length_pos_of_mem ha
    rw [List.length_cons]; omega
theorem fst_of {adj : List (List Int)} : ∀ n x, x < n → ∃ u, u ≤ x ∧ Fst adj u ∧ Rc adj u x := by
  intro n
  induction n with
  | zero => intro x h; omega
  | succ n ih =>
    intro x hx
    by_cases h : Fst adj x
    · exact ⟨x, Nat.le_refl _, h, Rc.refl adj x⟩
    · obtain ⟨u, h1, h2⟩ := Met.not_fst.2 h
      obtain ⟨w, h3, h4, h5⟩ := ih u (by omega)
      exact ⟨w, by omega, h4, h5.trans h2⟩
theorem mem_fstN {adj : List (List Int)} {k v : Nat} : v ∈ fstN adj k ↔ v < k ∧ Fst adj v := by
  classical
  unfold fstN
  simp
section
variable {adj : List (List Int)} (hV : Valid adj) (hn : adj.length ≤ 12)
include hV hn
theorem cmV_ok : (cmV adj).Nodup ∧ (∀ x, x ∈ cmV adj ↔ x < adj.length) ∧ (cmV adj).length = adj.length := by
  obtain ⟨h1, h2, h3⟩ := ordV_ok hV hn _ (Nat.le_refl _)
  have hm : ∀ x, x ∈ cmV adj ↔ x < adj.length := fun x => by
    refine ⟨h3 x, fun hx => (h2 x).2 ?_⟩
    obtain ⟨u, hu1, hu2, hu3⟩ := fst_of (adj := adj) (x + 1) x (by omega)
    rw [List.take_length]
    exact ⟨u, mem_fstN.2 ⟨by omega, hu2⟩, hu3⟩
  refine ⟨h1, hm, Nat.le_antisymm (nodup_le h1 h3) ?_⟩
  have := subset_le (l := List.range adj.length) (m := cmV adj) List.nodup_range (fun x hx => (hm x).2 (List.mem_range.1 hx))
  simpa using this
end
section
variable {adj : List (List Int)} (hc : ∀ l ∈ adj, l.length < 4611686018427387904) (ho : adj.length ≤ 200 → Valid adj → adj.length ≤ 12)
include hc ho
variable (o : List Int) (hol : o.length < 4611686018427387904)
include hol
end
theorem RcmMade_true (n : Int) (l o : List Int) : d_sparselaw17q_RcmMade (n, l, o, ()) = some (true, ()) := by
  classical
  rw [← Ok.eq_iff]
  unfold d_sparselaw17q_RcmMade
  simp only [cond_dec, awake17, Option.bind_some, Place_eq n 13 (by omega) (by omega)]
  refine Ok.ite (fun _ => Ok.some_iff.2 rfl) (fun hl => ?_)
  obtain ⟨m, hm, hm2⟩ := place_nat n 13 (by omega)
  rw [hm]
  refine Ok.bind_of (Graph_ok m l (by omega) (by omega)) ?_
  rintro ⟨⟨adj, ⟨⟩⟩, ⟨⟩⟩ ⟨hal, hV, hx⟩
  simp only at hal hV hx
  refine Ok.bind_of (Shuffle_ok o m (by omega)) ?_
  rintro ⟨p, ⟨⟩⟩ hp
  simp only at hp
  rw [← hal] at hp
  have hn : adj.length ≤ 12 := by omega
  have n1 : (natL (cmV adj).reverse).length < 4611686018427387904 := by rw [natL_length, List.length_reverse, (cmV_ok hV hn).2.2]; omega
  simp only [Order_eq hV hn, refOrder_eq hV hn, Bandwidth_ok hV hp hn, refBandwidth_ok hV hp (show adj.length ≤ 200 by omega), Profile_ok hV hp hn, refProfile_ok hV hp (show adj.length ≤ 200 by omega), Option.bind_some, Ints_eq _ _ n1, beq_self_eq_true, cond_true, awake17]
  exact Ok.some_iff.2 rfl
section
variable {adj : List (List Int)} (hV : Valid adj) {o : List Int}
include hV
end
section
variable {adj : List (List Int)} (hV : Valid adj) {o : List Int} (hp : IsPerm o adj.length)
include hV hp
end
section
variable {adj : List (List Int)} (hV : Valid adj) (hn : adj.length ≤ 200) {o : List Int} (hp : IsPerm o adj.length)
include hV hn hp
end
end Go.Fw
end
