/-
  Parts of the proof: Pl46, Pl47, Pl48, Pl49, Pl50, Pl51, Pl54, Ev16, Pl75, Pl77, Pl78, Pl79: the framework (Fw), pure forms (Dn), plain laws (Pl, Th), calls of functions (Ok).
-/
import Derived.Test.YtcjbeengjcmpaaaB0d95e359

set_option linter.all false
section
namespace Go.Fw
set_option linter.unusedSimpArgs false
set_option linter.unusedVariables false
open Go
theorem idxO {n : Nat} {B : Nat → Nat → Bool} {a : Nat} (h : a < n) : atO (mT n B) a (fun e => some e) = some (fT n (B a)) := atO_fT h
theorem clear_eq {n : Nat} {B : Nat → Nat → Bool} {a b : Nat} (ha : a < n) (hb : b < n) :
    atO (mT n B) a (fun e => (atO e b fun _ => some (e.set b false)).map fun z => (mT n B).set a z) = some (mT n (fun x y => if x = a ∧ y = b then false else B x y)) := by
  have h1 : atO (mT n B) a (fun e => (atO e b fun _ => some (e.set b false)).map fun z => (mT n B).set a z) = (atO (fT n (B a)) b fun _ => some ((fT n (B a)).set b false)).map fun z => (mT n B).set a z := atO_fT ha
  rw [h1, atO_fT hb]
  simp only [Option.map_some]
  unfold mT
  rw [fT_set, fT_set]
  refine congrArg some (fT_congr fun x hx => ?_)
  simp only [upd]
  by_cases h : x = a
  · rw [if_pos h]
    refine fT_congr fun y hy => ?_
    simp only [upd]
    by_cases h2 : y = b
    · rw [if_pos h2, if_pos ⟨h, h2⟩]
    · rw [if_neg h2, if_neg (fun e => h2 e.2), h]
  · rw [if_neg h]
    refine fT_congr fun y hy => ?_
    rw [if_neg (fun e => h e.1)]
theorem nat_get {L : List Nat} {k : Nat} (h : k < L.length) : getI (natL L) (k : Int) = some ((L[k] : Nat) : Int) := getN_some (by simp [natL, h])
def elB (B : Nat → Nat → Bool) (v : Nat) : Nat → Nat → Bool := fun a b => if a = v ∨ b = v then false else B a b || (decide (a ≠ b) && (B v a && B v b))
theorem elim_mT {n : Nat} (hn : n ≤ 4294967296) {B : Nat → Nat → Bool} {γ : Nat → Bool} {v : Nat} (hv : v < n) (hs : ∀ a b, B a b = B b a) (hd : B v v = false) :
    d_mindeg_Elimination_Eliminate ((mT n B, (fT n γ, ())), (v : Int), ()) = some ((mT n (elB B v), (fT n (upd γ v true), ())), natL ((List.range n).filter (B v)), ()) := by
  unfold d_mindeg_Elimination_Eliminate
  simp only []
  rw [List_eq hn hv]
  simp only [Option.bind_some]
  generalize hL : (List.range n).filter (B v) = L
  have hmem : ∀ x, x ∈ L ↔ x < n ∧ B v x = true := fun x => by rw [← hL, List.mem_filter, List.mem_range]
  have hnd : L.Nodup := by rw [← hL]; exact List.nodup_range.sublist List.filter_sublist
  have hlt : ∀ k, (h : k < L.length) → L[k] < n := fun k h => ((hmem _).1 (List.getElem_mem h)).1
  have hvL : v ∉ L := fun h => by have := ((hmem v).1 h).2; rw [hd] at this; cases this
  let Bk : Nat → Nat → Nat → Bool := fun k a b => if (a = v ∧ b ∈ L.take k) ∨ (b = v ∧ a ∈ L.take k) then false else B a b || (decide (a ≠ b) && (decide (a ∈ L.take k) && decide (b ∈ L.take k)))
  have hll : L.length ≤ n := by rw [← hL]; exact Nat.le_trans (List.length_filter_le _ _) (by simp)
  have hnl : (natL L).length = L.length := natL_length L
  refine bind_eq (y := ((mT n (Bk L.length), (fT n γ, ())), ())) (loop_for L.length (fun k => ((mT n (Bk k), (fT n γ, ())), ())) 0 rfl ?_ (Nat.zero_le _) ?_ ?_) ?_
  · refine congrArg (fun t => ((t, (fT n γ, ())), ())) (mT_congr fun a b _ _ => ?_)
    simp [Bk]
  · intro k _ hk
    have hkn := hlt k hk
    have hkv : L[k] ≠ v := fun e => hvL (e ▸ List.getElem_mem hk)
    have hlen : ((natL L).take k).length = k := by rw [List.length_take, hnl]; omega
    simp (disch := omega) only [hnl, cond_dec, if_pos, nat_get hk, Option.bind_some, natO_ok, leO_ok, Option.map_some, List.drop_zero]
    have htk : ∀ x, x ∈ L.take (k + 1) ↔ x ∈ L.take k ∨ x = L[k] := fun x => by
      rw [← take_snoc hk, List.mem_append, List.mem_singleton]
    have hnk : L[k] ∉ L.take k := fun hm => by
      obtain ⟨m, hm1, hm2⟩ := List.mem_iff_getElem.1 hm
      simp only [List.length_take] at hm1
      simp only [List.getElem_take] at hm2
      have := (List.getElem_inj hnd).1 hm2
      omega
    let Bj : Nat → Nat → Nat → Bool := fun j a b => Bk k a b || (decide (a ≠ b) && ((decide (a = L[k]) && decide (b ∈ L.take j)) || (decide (b = L[k]) && decide (a ∈ L.take j))))
    refine bind_eq (y := ((mT n (Bj k), (fT n γ, ())), ())) (loop_for k (fun j => ((mT n (Bj j), (fT n γ, ())), ())) 0 rfl ?_ (Nat.zero_le _) ?_ ?_) ?_
    · refine congrArg (fun t => ((t, (fT n γ, ())), ())) (mT_congr fun a b _ _ => ?_)
      simp [Bj]
    · intro j _ hj
      have hjl : j < L.length := by omega
      have hg2 : getI ((natL L).take k) (j : Int) = some ((L[j] : Nat) : Int) := getN_some (by rw [List.getElem?_take_of_lt hj]; simp [natL, hjl])
      simp (disch := omega) only [hlen, cond_dec, if_pos, hg2, Option.bind_some, wrap_inc, Join_eq hkn (hlt j hjl)]
      refine congrArg (fun t => some (Sum.inl (((j + 1 : Nat) : Int), (t, (fT n γ, ())), ()))) (mT_congr fun a b _ _ => ?_)
      have hjk : L[j] ≠ L[k] := fun e => by have := (List.getElem_inj hnd).1 e; omega
      have htj : ∀ x, x ∈ L.take (j + 1) ↔ x ∈ L.take j ∨ x = L[j] := fun x => by
        rw [← take_snoc hjl, List.mem_append, List.mem_singleton]
      simp only [Bj]
      rw [Bool.eq_iff_iff]
      simp only [Bool.or_eq_true, Bool.and_eq_true, decide_eq_true_eq, htj]
      constructor
      · rintro ((h | ⟨h1, h2⟩) | ⟨h1, ⟨rfl, rfl⟩ | ⟨rfl, rfl⟩⟩)
        · exact .inl h
        · exact .inr ⟨h1, h2.imp (fun h => ⟨h.1, .inl h.2⟩) (fun h => ⟨h.1, .inl h.2⟩)⟩
        · exact .inr ⟨h1, .inl ⟨rfl, .inr rfl⟩⟩
        · exact .inr ⟨fun e => h1 e.symm, .inr ⟨rfl, .inr rfl⟩⟩
      · rintro (h | ⟨h1, ⟨h2, h3 | h3⟩ | ⟨h2, h3 | h3⟩⟩)
        · exact .inl (.inl h)
        · exact .inl (.inr ⟨h1, .inl ⟨h2, h3⟩⟩)
        · exact .inr ⟨fun e => hjk e.symm, .inl ⟨h2, h3⟩⟩
        · exact .inl (.inr ⟨h1, .inr ⟨h2, h3⟩⟩)
        · exact .inr ⟨fun e => hjk e.symm, .inr ⟨h3, h2⟩⟩
    · simp (disch := omega) only [hlen, cond_dec, if_neg]
    · simp (disch := omega) only [mT_length, idxN_nat, Option.bind_some, idxO, fT_length, clear_eq, Option.map_some, wrap_inc]
      refine congrArg (fun t => some (Sum.inl (((k + 1 : Nat) : Int), (t, (fT n γ, ())), ()))) (mT_congr fun a b _ _ => ?_)
      simp only [Bj, Bk]
      by_cases h1 : a = v ∧ b = L[k]
      · rw [if_pos h1, if_pos (.inl ⟨h1.1, (htk b).2 (.inr h1.2)⟩)]
      rw [if_neg h1]
      by_cases h2 : a = L[k] ∧ b = v
      · rw [if_pos h2, if_pos (.inr ⟨h2.2, (htk a).2 (.inr h2.1)⟩)]
      rw [if_neg h2]
      by_cases h3 : (a = v ∧ b ∈ L.take k) ∨ (b = v ∧ a ∈ L.take k)
      · rw [if_pos h3, if_pos (h3.imp (fun h => ⟨h.1, (htk b).2 (.inl h.2)⟩) (fun h => ⟨h.1, (htk a).2 (.inl h.2)⟩))]
        rw [Bool.eq_false_iff]
        simp only [Bool.false_or, ne_eq, Bool.and_eq_true, Bool.or_eq_true, decide_eq_true_eq]
        rintro ⟨_, ⟨g1, g2⟩ | ⟨g1, g2⟩⟩
        · rcases h3 with h | h
          · exact hkv (g1.symm.trans h.1)
          · exact hvL (h.1 ▸ List.mem_of_mem_take g2)
        · rcases h3 with h | h
          · exact hvL (h.1 ▸ List.mem_of_mem_take g2)
          · exact hkv (g1.symm.trans h.1)
      · rw [if_neg h3, if_neg (by
          rintro (⟨g1, g2⟩ | ⟨g1, g2⟩)
          · rcases (htk b).1 g2 with g | g
            · exact h3 (.inl ⟨g1, g⟩)
            · exact h1 ⟨g1, g⟩
          · rcases (htk a).1 g2 with g | g
            · exact h3 (.inr ⟨g1, g⟩)
            · exact h2 ⟨g, g1⟩)]
        rw [Bool.eq_iff_iff]
        simp only [Bool.or_eq_true, Bool.and_eq_true, decide_eq_true_eq, htk]
        constructor
        · rintro ((h | ⟨g1, g2, g3⟩) | ⟨g1, ⟨g2, g3⟩ | ⟨g2, g3⟩⟩)
          · exact .inl h
          · exact .inr ⟨g1, .inl g2, .inl g3⟩
          · exact .inr ⟨g1, .inr g2, .inl g3⟩
          · exact .inr ⟨g1, .inl g3, .inr g2⟩
        · rintro (h | ⟨g1, g2 | g2, g3 | g3⟩)
          · exact .inl (.inl h)
          · exact .inl (.inr ⟨g1, g2, g3⟩)
          · exact .inr ⟨g1, .inr ⟨g3, g2⟩⟩
          · exact .inr ⟨g1, .inl ⟨g2, g3⟩⟩
          · exact absurd (g2.trans g3.symm) g1
  · simp (disch := omega) only [hnl, cond_dec, if_neg]
  · simp (disch := omega) only [fT_length, idxN_nat, Option.bind_some, atO_fT, fT_set, Option.map_some]
    refine congrArg (fun t => some ((t, (fT n (upd γ v true), ())), natL L, ())) (mT_congr fun a b ha hb => ?_)
    simp only [Bk, elB, List.take_length, hmem]
    by_cases h0 : a = v ∨ b = v
    · rw [if_pos h0]
      by_cases h1 : (a = v ∧ b < n ∧ B v b = true) ∨ (b = v ∧ a < n ∧ B v a = true)
      · rw [if_pos h1]
      · rw [if_neg h1, Bool.eq_false_iff]
        simp only [ne_eq, Bool.or_eq_true, Bool.and_eq_true, decide_eq_true_eq, not_or, not_and]
        rcases h0 with h0 | h0
        · subst h0
          refine ⟨fun h => h1 (.inl ⟨rfl, hb, h⟩), fun _ h => ?_⟩
          rw [hd] at h; cases h.2
        · subst h0
          refine ⟨fun h => h1 (.inr ⟨rfl, ha, by rw [hs]; exact h⟩), fun _ _ _ h => ?_⟩
          rw [hd] at h; cases h
    · rw [if_neg h0, if_neg (fun h => h0 (h.imp (fun h => h.1) (fun h => h.1)))]
      simp [ha, hb]
def nbB (adj : List (List Int)) (a b : Nat) : Bool := decide ((b : Int) ∈ adj.getD a [])
theorem nbB_iff {adj : List (List Int)} {a b : Nat} : nbB adj a b = true ↔ Nb adj a b := by
  unfold nbB
  rw [decide_eq_true_eq]
  by_cases h : a < adj.length
  · rw [getD_lt h]; exact ⟨fun h2 => ⟨h, h2⟩, fun ⟨_, h2⟩ => h2⟩
  · rw [show adj.getD a [] = [] by simp [List.getD, List.getElem?_eq_none (Nat.le_of_not_lt h)]]
    exact ⟨fun h2 => (by cases h2), fun ⟨h2, _⟩ => absurd h2 h⟩
theorem nbB_symm {adj : List (List Int)} (hV : Valid adj) (a b : Nat) : nbB adj a b = nbB adj b a := by
  rw [Bool.eq_iff_iff, nbB_iff, nbB_iff]; exact ⟨Nb.symm hV a b, Nb.symm hV b a⟩
theorem Table_mT {adj : List (List Int)} (hV : Valid adj) (hn : adj.length ≤ 200) : d_graph_Table ((adj, ()), ()) = some (mT adj.length (nbB adj), ()) := by
  generalize hN : adj.length = n at *
  unfold d_graph_Table
  simp only [hN]
  rw [NewSets_eq n (by omega)]
  simp only [Option.bind_some]
  let Bv : Nat → Nat → Nat → Bool := fun v a b => nbB adj a b && (decide (a < v) || decide (b < v))
  refine bind_eq (y := (mT n (Bv n), ())) (loop_for n (fun v => (mT n (Bv v), ())) 0 rfl ?_ (Nat.zero_le _) ?_ ?_) ?_
  · refine congrArg (fun t => (t, ())) (mT_congr fun a b _ _ => ?_)
    simp [Bv]
  · intro v _ hv
    have hvl : v < adj.length := by omega
    have hg : getI adj (v : Int) = some adj[v] := getN_some (List.getElem?_eq_getElem hvl)
    have hrow := (Valid_iff adj).1 hV v hvl
    have hlen : adj[v].length ≤ n := by have := hV.rows _ (List.getElem_mem hvl); omega
    simp (disch := omega) only [cond_dec, if_pos, hg, Option.bind_some]
    let Bk : Nat → Nat → Nat → Bool := fun k a b => Bv v a b || ((decide (a = v) && decide ((b : Int) ∈ adj[v].take k)) || (decide (b = v) && decide ((a : Int) ∈ adj[v].take k)))
    refine bind_eq (y := (mT n (Bk adj[v].length), ())) (loop_for adj[v].length (fun k => (mT n (Bk k), ())) 0 rfl ?_ (Nat.zero_le _) ?_ ?_) ?_
    · refine congrArg (fun t => (t, ())) (mT_congr fun a b _ _ => ?_)
      simp [Bk]
    · intro k _ hk
      have hx := hrow.2 k hk
      obtain ⟨x, hxx⟩ : ∃ x : Nat, adj[v][k] = (x : Int) := ⟨adj[v][k].toNat, by omega⟩
      have hxn : x < n := by omega
      have hxv : v ≠ x := fun e => hx.2.1 (by rw [hxx, e])
      have hg2 : getI adj[v] (k : Int) = some (x : Int) := by rw [getN_some (List.getElem?_eq_getElem hk), hxx]
      simp (disch := omega) only [cond_dec, if_pos, hg2, Option.bind_some, Join_eq hv hxn, wrap_inc]
      refine congrArg (fun t => some (Sum.inl (((k + 1 : Nat) : Int), t, ()))) (mT_congr fun a b _ _ => ?_)
      have htk : ∀ y : Nat, (y : Int) ∈ adj[v].take (k + 1) ↔ (y : Int) ∈ adj[v].take k ∨ y = x := fun y => by
        rw [← take_snoc hk, List.mem_append, List.mem_singleton, hxx]; exact or_congr Iff.rfl Int.ofNat_inj
      simp only [Bk]
      rw [Bool.eq_iff_iff]
      simp only [Bool.or_eq_true, Bool.and_eq_true, decide_eq_true_eq, htk]
      constructor
      · rintro ((h | h | h) | ⟨_, ⟨rfl, rfl⟩ | ⟨rfl, rfl⟩⟩)
        · exact .inl h
        · exact .inr (.inl ⟨h.1, .inl h.2⟩)
        · exact .inr (.inr ⟨h.1, .inl h.2⟩)
        · exact .inr (.inl ⟨rfl, .inr rfl⟩)
        · exact .inr (.inr ⟨rfl, .inr rfl⟩)
      · rintro (h | ⟨h1, h2 | h2⟩ | ⟨h1, h2 | h2⟩)
        · exact .inl (.inl h)
        · exact .inl (.inr (.inl ⟨h1, h2⟩))
        · exact .inr ⟨hxv, .inl ⟨h1, h2⟩⟩
        · exact .inl (.inr (.inr ⟨h1, h2⟩))
        · exact .inr ⟨hxv, .inr ⟨h2, h1⟩⟩
    · simp (disch := omega) only [cond_dec, if_neg]
    · simp (disch := omega) only [wrap_inc]
      refine congrArg (fun t => some (Sum.inl (((v + 1 : Nat) : Int), t, ()))) (mT_congr fun a b _ _ => ?_)
      have hvb : ∀ y : Nat, (y : Int) ∈ adj[v] ↔ nbB adj v y = true := fun y => by rw [nbB_iff]; exact ⟨fun h => ⟨hvl, h⟩, fun ⟨_, h⟩ => h⟩
      simp only [Bk, Bv, List.take_length]
      rw [Bool.eq_iff_iff]
      simp only [Bool.or_eq_true, Bool.and_eq_true, decide_eq_true_eq, hvb]
      constructor
      · rintro (⟨h1, h2⟩ | ⟨rfl, h2⟩ | ⟨rfl, h2⟩)
        · exact ⟨h1, by omega⟩
        · exact ⟨h2, by omega⟩
        · exact ⟨by rw [nbB_symm hV]; exact h2, by omega⟩
      · rintro ⟨h1, h2⟩
        by_cases h3 : a = v
        · exact .inr (.inl ⟨h3, h3 ▸ h1⟩)
        · by_cases h4 : b = v
          · exact .inr (.inr ⟨h4, by rw [nbB_symm hV, ← h4]; exact h1⟩)
          · exact .inl ⟨h1, by omega⟩
  · simp (disch := omega) only [cond_dec, if_neg]
  · refine congrArg (fun t => some (t, ())) (mT_congr fun a b ha hb => ?_)
    simp [Bv, ha, hb]
noncomputable def bT (adj : List (List Int)) (S : Nat → Prop) (a b : Nat) : Bool := open Classical in decide (a ≠ b ∧ ¬ S a ∧ ¬ S b ∧ WalkP (Nb adj) S a b)
theorem bT_iff {adj : List (List Int)} {S : Nat → Prop} {a b : Nat} : bT adj S a b = true ↔ a ≠ b ∧ ¬ S a ∧ ¬ S b ∧ WalkP (Nb adj) S a b := by classical unfold bT; exact decide_eq_true_iff
theorem bT_symm {adj : List (List Int)} (hV : Valid adj) {S : Nat → Prop} (a b : Nat) : bT adj S a b = bT adj S b a := by
  rw [Bool.eq_iff_iff, bT_iff, bT_iff]
  exact ⟨fun ⟨h1, h2, h3, h4⟩ => ⟨fun e => h1 e.symm, h3, h2, h4.symm (Nb.symm hV)⟩, fun ⟨h1, h2, h3, h4⟩ => ⟨fun e => h1 e.symm, h3, h2, h4.symm (Nb.symm hV)⟩⟩
theorem bT_self {adj : List (List Int)} {S : Nat → Prop} (a : Nat) : bT adj S a a = false := by rw [Bool.eq_false_iff]; exact fun h => (bT_iff.1 h).1 rfl
theorem bT_none {adj : List (List Int)} (hV : Valid adj) (a b : Nat) : bT adj (fun _ => False) a b = nbB adj a b := by
  rw [Bool.eq_iff_iff, bT_iff, nbB_iff, WalkP.none]
  exact ⟨fun h => h.2.2.2, fun h => ⟨Nb.ne hV h, fun h => h, fun h => h, h⟩⟩
theorem bT_next {adj : List (List Int)} (hV : Valid adj) {S : Nat → Prop} {v : Nat} (hv : ¬ S v) (a b : Nat) : elB (bT adj S) v a b = bT adj (fun x => S x ∨ x = v) a b := by
  unfold elB
  rw [Bool.eq_iff_iff, bT_iff, WalkP.insert_iff]
  by_cases h : a = v ∨ b = v
  · rw [if_pos h]
    exact ⟨fun h2 => (by cases h2), fun ⟨_, h1, h2, _⟩ => absurd h (fun h => h.elim (fun h => h1 (.inr h)) (fun h => h2 (.inr h)))⟩
  · rw [if_neg h]
    simp only [Bool.or_eq_true, Bool.and_eq_true, decide_eq_true_eq, bT_iff]
    have hs := Nb.symm hV
    constructor
    · rintro (⟨h1, h2, h3, h4⟩ | ⟨h1, ⟨_, _, h2, h3⟩, ⟨_, _, h4, h5⟩⟩)
      · exact ⟨h1, fun h' => h'.elim h2 (fun e => h (.inl e)), fun h' => h'.elim h3 (fun e => h (.inr e)), .inl h4⟩
      · exact ⟨h1, fun h' => h'.elim h2 (fun e => h (.inl e)), fun h' => h'.elim h4 (fun e => h (.inr e)), .inr ⟨h3.symm hs, h5⟩⟩
    · rintro ⟨h1, h2, h3, h4 | ⟨h4, h5⟩⟩
      · exact .inl ⟨h1, fun q => h2 (.inl q), fun q => h3 (.inl q), h4⟩
      · exact .inr ⟨h1, ⟨fun e => h (.inl e.symm), hv, fun q => h2 (.inl q), h4.symm hs⟩, ⟨fun e => h (.inr e.symm), hv, fun q => h3 (.inl q), h5⟩⟩
theorem Start_eq {adj : List (List Int)} (hV : Valid adj) (hn : adj.length ≤ 200) : d_mindeg_Start ((adj, ()), ()) = some ((mT adj.length (bT adj fun _ => False), (fT adj.length (fun _ => false), ())), ()) := by
  unfold d_mindeg_Start
  simp only [Table_mT hV hn, Option.bind_some, madeO_ok (show adj.length ≤ 4294967296 by omega), fT_replicate]
  rw [mT_congr (fun a b _ _ => (bT_none hV a b).symm)]
def ordN (o : List Int) (k : Nat) : Nat := (o.getD k 0).toNat
def ahead (o : List Int) (k : Nat) (x : Nat) : Prop := ∃ j, j < k ∧ x = ordN o j
noncomputable def dgN (adj : List (List Int)) (o : List Int) (k : Nat) : Nat := ((List.range adj.length).filter (bT adj (ahead o k) (ordN o k))).length
theorem IsPerm.get {o : List Int} {n : Nat} (h : IsPerm o n) {k : Nat} (hk : k < n) : getI o (k : Int) = some ((ordN o k : Nat) : Int) ∧ ordN o k < n := by
  have hl : k < o.length := by rw [h.1]; exact hk
  have h1 := h.2.1 _ (List.getElem_mem hl)
  have h2 : ordN o k = o[k].toNat := by unfold ordN; rw [getD_lt hl]
  exact ⟨by rw [getN_some (List.getElem?_eq_getElem hl), h2]; congr 1; omega, by omega⟩
theorem IsPerm.inj {o : List Int} {n : Nat} (h : IsPerm o n) {j k : Nat} (hj : j < n) (hk : k < n) (e : ordN o j = ordN o k) : j = k := by
  have hjl : j < o.length := by rw [h.1]; exact hj
  have hkl : k < o.length := by rw [h.1]; exact hk
  have h1 := h.2.1 _ (List.getElem_mem hjl)
  have h2 := h.2.1 _ (List.getElem_mem hkl)
  unfold ordN at e
  rw [getD_lt hjl, getD_lt hkl] at e
  exact (List.getElem_inj h.2.2).1 (by omega)
theorem Degrees_eq {adj : List (List Int)} (hV : Valid adj) (hn : adj.length ≤ 12) {o : List Int} (hp : IsPerm o adj.length) :
    d_mindeg_Degrees ((adj, ()), o, ()) = some (fT adj.length (fun k => (dgN adj o k : Int)), 0, ()) := by
  classical
  have hc := hV.hc (by omega)
  unfold d_mindeg_Degrees
  simp only [Permuted_eq hc o (fun _ _ => hn) (by have := hp.1; omega), perm_iff (by omega) hV hp, Option.bind_some, bneI, decide_true, Bool.not_true, cond_false, Start_eq hV (by omega), hp.1]
  refine bind_eq (loop_for (r := (fT adj.length (fun k => (dgN adj o k : Int)), ())) adj.length (fun k => ((mT adj.length (bT adj (ahead o k)), (fT adj.length (fun x => open Classical in decide (ahead o k x)), ())), fT k (fun k => (dgN adj o k : Int)), ())) 0 rfl ?_ (Nat.zero_le _) ?_ ?_) rfl
  · have e : ahead o 0 = fun _ => False := by funext x; exact eq_false (fun ⟨j, h, _⟩ => by omega)
    rw [e]
    simp [fT_zero]
  · intro k _ hk
    obtain ⟨hg, hv⟩ := hp.get hk
    have hS : ¬ ahead o k (ordN o k) := fun ⟨j, hj, e⟩ => by have := hp.inj hk (by omega) e; omega
    have hnext : (fun x => ahead o k x ∨ x = ordN o k) = ahead o (k + 1) := by
      funext x
      refine propext ⟨?_, ?_⟩
      · rintro (⟨j, hj, e⟩ | e)
        · exact ⟨j, by omega, e⟩
        · exact ⟨k, by omega, e⟩
      · rintro ⟨j, hj, e⟩
        by_cases h : j = k
        · exact .inr (h ▸ e)
        · exact .inl ⟨j, by omega, e⟩
    simp (disch := omega) only [cond_dec, if_pos, hg, Option.bind_some, elim_mT (by omega) hv (bT_symm hV) (bT_self _), fT_length, List.length_singleton, limO_ok, wrap_inc, natL_length]
    rw [mT_congr (fun a b _ _ => bT_next hV hS a b), hnext, fT_succ]
    refine congrArg (fun t => some (Sum.inl (((k + 1 : Nat) : Int), (mT adj.length (bT adj (ahead o (k + 1))), (t, ())), fT k (fun k => (dgN adj o k : Int)) ++ [(dgN adj o k : Int)], ()))) (fT_congr fun x _ => ?_)
    have hx : ahead o (k + 1) x ↔ ahead o k x ∨ x = ordN o k := by rw [← hnext]
    simp only [upd]
    by_cases h : x = ordN o k
    · rw [if_pos h]; exact (decide_eq_true (hx.2 (.inr h))).symm
    · rw [if_neg h]
      exact decide_eq_decide.2 ⟨fun q => hx.2 (.inl q), fun q => (hx.1 q).resolve_right h⟩
  · simp (disch := omega) only [cond_dec, if_neg]
end Go.Fw
end

section
namespace Go.Fw
set_option linter.unusedSimpArgs false
set_option linter.unusedVariables false
open Go
def nB (n : Nat) (p : Nat → Bool) : Nat := ((List.range n).filter p).length
theorem nB_congr {n : Nat} {p q : Nat → Bool} (h : ∀ i, i < n → p i = q i) : nB n p = nB n q := by
  unfold nB; rw [List.filter_congr fun i hi => h i (List.mem_range.1 hi)]
theorem nB_le (n : Nat) (p : Nat → Bool) : nB n p ≤ n := by unfold nB; exact Nat.le_trans (List.length_filter_le _ _) (by simp)
theorem nB_mono {n : Nat} {p q : Nat → Bool} (h : ∀ i, i < n → p i = true → q i = true) : nB n p ≤ nB n q := by
  unfold nB
  refine List.Sublist.length_le ?_
  have : (List.range n).filter p = ((List.range n).filter q).filter p := by
    rw [List.filter_filter]
    refine List.filter_congr fun i hi => ?_
    have := h i (List.mem_range.1 hi)
    cases hp : p i
    · simp
    · simp [this hp]
  rw [this]; exact List.filter_sublist
theorem nB_or {n : Nat} {p q : Nat → Bool} (h : ∀ i, i < n → p i = true → q i = false) : nB n (fun i => p i || q i) = nB n p + nB n q := by
  unfold nB
  induction n with
  | zero => rfl
  | succ n ih =>
    have ih := ih (fun i hi => h i (by omega))
    rw [List.range_succ, List.filter_append, List.filter_append, List.filter_append, List.length_append, List.length_append, List.length_append, ih]
    have := h n (by omega)
    cases hp : p n
    · cases hq : q n <;> simp [hp, hq] <;> omega
    · simp [hp, this hp]; omega
theorem nB_one {n k : Nat} (hk : k < n) : nB n (fun i => decide (i = k)) = 1 := by
  unfold nB
  induction n with
  | zero => omega
  | succ n ih =>
    rw [List.range_succ, List.filter_append, List.length_append]
    by_cases h : k = n
    · subst h
      have : (List.range k).filter (fun i => decide (i = k)) = [] := List.filter_eq_nil_iff.2 fun i hi => by have := List.mem_range.1 hi; simp; omega
      rw [this]; simp
    · rw [ih (by omega)]
      have h' : ¬ n = k := fun e => h e.symm
      simp [h']
theorem sum_const (n c : Nat) : ((List.range n).map fun _ => c).sum = n * c := by
  induction n with
  | zero => simp
  | succ n ih => rw [List.range_succ, List.map_append, List.sum_append, ih, Nat.succ_mul]; simp
theorem sum_swap (R : Nat → Nat → Bool) (n m : Nat) : ((List.range m).map fun j => nB n (R j)).sum = ((List.range n).map fun i => nB m (fun j => R j i)).sum := by
  induction m with
  | zero =>
    show 0 = ((List.range n).map fun _ => 0).sum
    rw [sum_const]; rfl
  | succ m ih =>
    have : ∀ i, nB (m + 1) (fun j => R j i) = nB m (fun j => R j i) + (if R m i = true then 1 else 0) := fun i => by
      unfold nB
      rw [List.range_succ, List.filter_append, List.length_append]
      by_cases h : R m i = true <;> simp [h]
    rw [List.range_succ, List.map_append, List.sum_append, ih]
    simp only [this]
    rw [sum_addq, sum_ite]
    simp [nB]
theorem sum_le {l : List Nat} {f g : Nat → Nat} (h : ∀ x ∈ l, f x ≤ g x) : (l.map f).sum ≤ (l.map g).sum := by
  induction l with
  | nil => simp
  | cons a l ih => simp only [List.map_cons, List.sum_cons]; have := h a (by simp); have := ih (fun x hx => h x (by simp [hx])); omega
theorem IsPerm.map_perm {o : List Int} {n : Nat} (hp : o.Perm (natL (List.range n))) : ((List.range n).map (ordN o)).Perm (List.range n) := by
  have h1 := hp.map Int.toNat
  have e1 : (natL (List.range n)).map Int.toNat = List.range n := by
    unfold natL; rw [List.map_map]; exact List.map_id'' (fun x => by simp) _
  have hl : o.length = n := by rw [hp.length_eq, natL_length, List.length_range]
  have e2 : o.map Int.toNat = (List.range n).map (ordN o) := by
    apply List.ext_getElem
    · simp [hl]
    · intro i h1 h2
      have : i < o.length := by simpa using h1
      simp only [List.getElem_map, List.getElem_range, ordN]
      rw [getD_lt this]
  rw [e1, e2] at h1; exact h1
theorem nB_perm {o : List Int} {n : Nat} (hp : o.Perm (natL (List.range n))) (p : Nat → Bool) : nB n p = nB n (fun i => p (ordN o i)) := by
  unfold nB
  rw [← ((IsPerm.map_perm hp).filter p).length_eq, List.filter_map, List.length_map]
  rfl
theorem sum_perm {o : List Int} {n : Nat} (hp : o.Perm (natL (List.range n))) (f : Nat → Nat) : ((List.range n).map f).sum = ((List.range n).map fun k => f (ordN o k)).sum := by
  rw [← ((IsPerm.map_perm hp).map f).sum_nat, List.map_map]
  rfl
section
variable {adj : List (List Int)} (hV : Valid adj) {o : List Int} (hp : IsPerm o adj.length)
include hV hp
theorem edges_le (hn : adj.length ≤ 200) (hpm : o.Perm (natL (List.range adj.length))) : ((List.range adj.length).map fun v => (adj.getD v []).length).sum ≤ 2 * ((List.range adj.length).map fun k => dgN adj o k).sum := by
  have hrow : ∀ v, v < adj.length → (adj.getD v []).length = nB adj.length (nbB adj v) := fun v hv => by
    rw [getD_lt hv]
    have hr := (Valid_iff adj).1 hV v hv
    have : adj[v] = natL ((List.range adj.length).filter (nbB adj v)) := by
      refine sorted_ext hr.1 (sorted_filter _ _) (fun x => ?_)
      constructor
      · intro hx
        obtain ⟨m, hm, rfl⟩ := List.mem_iff_getElem.1 hx
        have h1 := hr.2 m hm
        refine List.mem_map.2 ⟨adj[v][m].toNat, List.mem_filter.2 ⟨List.mem_range.2 (by omega), ?_⟩, by omega⟩
        rw [nbB_iff]
        exact ⟨hv, by rw [Int.toNat_of_nonneg h1.1.1]; exact List.getElem_mem hm⟩
      · intro hx
        obtain ⟨y, hy, rfl⟩ := List.mem_map.1 hx
        obtain ⟨_, h2⟩ := nbB_iff.1 (List.mem_filter.1 hy).2
        exact h2
    rw [this, natL_length]; rfl
  have e1 : ((List.range adj.length).map fun v => (adj.getD v []).length).sum = ((List.range adj.length).map fun k => nB adj.length (fun i => nbB adj (ordN o k) (ordN o i))).sum := by
    rw [List.map_congr_left fun v hv => hrow v (List.mem_range.1 hv), sum_perm hpm]
    exact congrArg _ (List.map_congr_left fun k _ => nB_perm hpm _)
  have hsym : ∀ k i, nbB adj (ordN o k) (ordN o i) = nbB adj (ordN o i) (ordN o k) := fun k i => nbB_symm hV _ _
  have hsplit : ∀ k, k < adj.length → nB adj.length (fun i => nbB adj (ordN o k) (ordN o i)) = nB adj.length (fun i => decide (k < i) && nbB adj (ordN o k) (ordN o i)) + nB adj.length (fun i => decide (i < k) && nbB adj (ordN o k) (ordN o i)) := fun k hk => by
    rw [← nB_or]
    · refine nB_congr fun i hi => ?_
      by_cases h1 : k < i
      · simp [h1]
      · by_cases h2 : i < k
        · simp [h2]
        · obtain rfl : i = k := by omega
          have : nbB adj (ordN o i) (ordN o i) = false := by rw [Bool.eq_false_iff]; exact fun h => Nb.ne hV (nbB_iff.1 h) rfl
          simp [this]
    · intro i _ h
      simp only [Bool.and_eq_true, decide_eq_true_eq] at h
      rw [decF (show ¬ i < k by omega)]; rfl
  have hswap : ((List.range adj.length).map fun k => nB adj.length (fun i => decide (i < k) && nbB adj (ordN o k) (ordN o i))).sum = ((List.range adj.length).map fun k => nB adj.length (fun i => decide (k < i) && nbB adj (ordN o k) (ordN o i))).sum := by
    rw [sum_swap (fun k i => decide (i < k) && nbB adj (ordN o k) (ordN o i))]
    refine congrArg _ (List.map_congr_left fun i _ => nB_congr fun j _ => ?_)
    rw [hsym]
  have hdg : ∀ k ∈ List.range adj.length, nB adj.length (fun i => decide (k < i) && nbB adj (ordN o k) (ordN o i)) ≤ dgN adj o k := fun k hk => by
    have hk := List.mem_range.1 hk
    have : dgN adj o k = nB adj.length (fun i => bT adj (ahead o k) (ordN o k) (ordN o i)) := nB_perm hpm _
    rw [this]
    refine nB_mono fun i hi h => ?_
    simp only [Bool.and_eq_true, decide_eq_true_eq] at h
    rw [bT_iff]
    refine ⟨fun e => by have := hp.inj hk hi e; omega, fun ⟨m, hm, e⟩ => by have := hp.inj hk (by omega) e; omega, fun ⟨m, hm, e⟩ => by have := hp.inj hi (by omega) e; omega, .one (nbB_iff.1 h.2)⟩
  have hs := sum_le hdg
  have e2 : ((List.range adj.length).map fun k => nB adj.length (fun i => nbB adj (ordN o k) (ordN o i))).sum = ((List.range adj.length).map fun k => nB adj.length (fun i => decide (k < i) && nbB adj (ordN o k) (ordN o i))).sum + ((List.range adj.length).map fun k => nB adj.length (fun i => decide (k < i) && nbB adj (ordN o k) (ordN o i))).sum := by
    rw [← hswap, hswap, ← sum_addq]
    conv => rhs; rw [sum_addq]
    conv => rhs; rhs; rw [← hswap]
    rw [← sum_addq]
    exact congrArg _ (List.map_congr_left fun k hk => hsplit k (List.mem_range.1 hk))
  rw [e1, e2]
  exact Nat.le_trans (Nat.add_le_add hs hs) (Nat.le_of_eq (Nat.two_mul _).symm)
end
end Go.Fw
end

section
namespace Go.Fw
set_option linter.unusedSimpArgs false
set_option linter.unusedVariables false
open Go
theorem nodup_le : ∀ {n : Nat} {l : List Nat}, l.Nodup → (∀ x ∈ l, x < n) → l.length ≤ n := by
  intro n
  induction n with
  | zero => intro l _ h; cases l with
    | nil => exact Nat.le_refl _
    | cons a l => exact absurd (h a (List.mem_cons_self ..)) (by omega)
  | succ n ih =>
    intro l hd h
    have h1 : (l.erase n).Nodup := hd.erase n
    have h2 : ∀ x ∈ l.erase n, x < n := fun x hx => by
      have h3 := h x (List.mem_of_mem_erase hx)
      have h4 : x ≠ n := fun e => by subst e; exact (hd.mem_erase_iff.1 hx).1 rfl
      omega
    have h3 := ih h1 h2
    by_cases hm : n ∈ l
    · rw [List.length_erase_of_mem hm] at h3; omega
    · rw [List.erase_of_not_mem hm] at h3; omega
theorem mem_natL {l : List Nat} {x : Nat} : (x : Int) ∈ natL l ↔ x ∈ l := by
  unfold natL
  rw [List.mem_map]
  constructor
  · rintro ⟨y, h1, h2⟩
    obtain rfl : y = x := by omega
    exact h1
  · exact fun h => ⟨x, h, rfl⟩
section
variable {adj : List (List Int)} (hV : Valid adj)
include hV
end
end Go.Fw
end

section
namespace Go.Fw
set_option linter.unusedSimpArgs false
set_option linter.unusedVariables false
open Go
theorem Ok.seq {σ ρ : Type} {f : σ → Option (σ ⊕ ρ)} {Q : ρ → Prop} {s0 : σ} (n : Nat) (I : Nat → σ → Prop) (i0 : Nat) (h0 : I i0 s0) (hi : i0 ≤ n)
    (hstep : ∀ i s, i0 ≤ i → i < n → I i s → Ok (f s) (fun | .inl s' => I (i + 1) s' | .inr r => Q r))
    (hend : ∀ s, I n s → Ok (f s) (fun | .inl _ => False | .inr r => Q r)) : Ok (Fw.loop f s0) Q := by
  obtain ⟨d, hd⟩ : ∃ d, n = i0 + d := ⟨n - i0, by omega⟩
  induction d generalizing i0 s0 with
  | zero =>
    obtain rfl : n = i0 := by omega
    rw [loop_unfold]
    obtain ⟨y, hy, hq⟩ := hend s0 h0
    rw [hy]
    cases y with
    | inl => exact hq.elim
    | inr r => exact Ok.some_iff.2 hq
  | succ d ih =>
    rw [loop_unfold]
    obtain ⟨y, hy, hq⟩ := hstep i0 s0 (Nat.le_refl _) (by omega) h0
    rw [hy]
    cases y with
    | inl s' => exact ih (i0 + 1) hq (by omega) (fun i s h => hstep i s (by omega)) (by omega)
    | inr r => exact Ok.some_iff.2 hq
theorem loop_seq {σ ρ : Type} {f : σ → Option (σ ⊕ ρ)} {r : ρ} {s0 : σ} (n : Nat) (I : Nat → σ) (i0 : Nat) (hs : s0 = I i0) (hi : i0 ≤ n)
    (hstep : ∀ i, i0 ≤ i → i < n → f (I i) = some (.inl (I (i + 1)))) (hend : f (I n) = some (.inr r)) : loop f s0 = some r := by
  rw [← Ok.eq_iff]
  refine Ok.seq n (fun i s => s = I i) i0 hs hi ?_ ?_
  · rintro i _ h1 h2 rfl
    rw [hstep i h1 h2]
    exact Ok.some_iff.2 rfl
  · rintro _ rfl
    rw [hend]
    exact Ok.some_iff.2 rfl
theorem bindR {α β : Type} {x : Option α} {g : α → Option β} {r : Option β} (y : α) (h2 : g y = r) (h : x = some y) : x.bind g = r := by rw [h]; exact h2
section
variable {adj : List (List Int)} (hV : Valid adj)
include hV
end
end Go.Fw
end

section
namespace Go.Fw
set_option linter.unusedSimpArgs false
set_option linter.unusedVariables false
open Go
def dgV (adj : List (List Int)) (x : Int) : Nat := (adj.getD x.toNat []).length
section
variable {adj : List (List Int)} (hV : Valid adj) (hn : adj.length ≤ 200)
include hV hn
end
end Go.Fw
end

section
namespace Go.Fw
set_option linter.unusedSimpArgs false
set_option linter.unusedVariables false
open Go
def lexI (adj : List (List Int)) (x y : Int) : Prop := dgV adj x < dgV adj y ∨ (dgV adj x = dgV adj y ∧ x < y)
instance (adj : List (List Int)) (x y : Int) : Decidable (lexI adj x y) := by unfold lexI; exact inferInstance
end Go.Fw
end

section
namespace Go.Fw
set_option linter.unusedSimpArgs false
set_option linter.unusedVariables false
open Go
def posN (o : List Int) (x : Nat) : Nat := o.idxOf (x : Int)
section
variable {o : List Int} {n : Nat} (hp : IsPerm o n)
include hp
theorem IsPerm.mem {x : Nat} (hx : x < n) : (x : Int) ∈ o := by
  apply Classical.byContradiction
  intro hno
  obtain ⟨h1, h2, h3⟩ := hp
  have e : o = natL (o.map Int.toNat) := by
    unfold natL
    rw [List.map_map]
    conv => lhs; rw [← List.map_id o]
    refine List.map_congr_left fun y h => ?_
    have := h2 y h
    simp only [id, Function.comp]
    omega
  have hd : (o.map Int.toNat).Nodup := by
    rw [List.nodup_iff_pairwise_ne, List.pairwise_map]
    refine (List.pairwise_iff_getElem.2 fun i j hi hj hij => ?_)
    have a := h2 _ (List.getElem_mem hi)
    have b := h2 _ (List.getElem_mem hj)
    have := List.pairwise_iff_getElem.1 (List.nodup_iff_pairwise_ne.1 h3) i j hi hj hij
    omega
  have hne : x ∉ o.map Int.toNat := fun h => hno (by rw [e]; exact mem_natL.2 h)
  have := nodup_le (n := n) (List.nodup_cons.2 ⟨hne, hd⟩) (fun y hy => by
    rcases List.mem_cons.1 hy with rfl | hy
    · exact hx
    · obtain ⟨z, hz, rfl⟩ := List.mem_map.1 hy
      have := h2 z hz
      omega)
  rw [List.length_cons, List.length_map] at this
  omega
theorem IsPerm.pos {x : Nat} (hx : x < n) : posN o x < n ∧ ordN o (posN o x) = x := by
  have h := hp.mem hx
  have h1 : posN o x < o.length := List.idxOf_lt_length_iff.2 h
  refine ⟨by rw [← hp.1]; exact h1, ?_⟩
  unfold ordN
  rw [getD_lt h1, show o[posN o x] = (x : Int) from List.getElem_idxOf h1]
  simp
end
section
variable {adj : List (List Int)} (hV : Valid adj) {o : List Int} (hp : IsPerm o adj.length)
include hV hp
end
end Go.Fw
end

section
namespace Go.Fw
noncomputable def e_graph_NewSets (n_ : Nat) : (Int × Unit) → Option ((List (List Bool)) × Unit) := fun (n_1, _) =>
  (madeO n_1 n_1).bind fun n2 =>
  (loopN (σ := (Int × (List (List Bool)) × Unit)) (ρ := ((List (List Bool)) × Unit)) (fun (s_3, s_4, _) =>
  (bif (decide (s_3 < (((((List.replicate n2 []) : (List (List Bool)))).length : Nat) : Int))) then (
  (madeO n_1 n_1).bind fun n5 =>
  (idxN (s_4).length s_3).bind fun k6 =>
  ((atO s_4 k6 fun _ => some ((s_4).set k6 (List.replicate n5 false)))).bind fun z8 =>
  some (.inl ((IntKind.i64.wrap (s_3 + ((1) : Int))), z8, ()))) else (
  some (.inr (s_4, ()))))) n_ (((0) : Int), (List.replicate n2 []), ())).bind fun (s_9, _) =>
  some (s_9, ())
set_option maxHeartbeats 4000000 in
theorem le_graph_NewSets (n_ : Nat) (a : (Int × Unit)) : Le (e_graph_NewSets n_ a) (d_graph_NewSets a) := by
  unfold e_graph_NewSets d_graph_NewSets
  repeat' (first | with_reducible exact Le.refl _  | (with_reducible refine Le.bind ?_ (fun y => ?_)) | (with_reducible refine Le.bif ?_ ?_) | (with_reducible refine Le.loop (fun s => ?_) _ _) | (with_reducible refine Le.atO (fun e => ?_)) | split)
noncomputable def e_graph_Sets_Join (n_ : Nat) : ((List (List Bool)) × Int × Int × Unit) → Option ((List (List Bool)) × Unit) := fun (s_1, v_2, w_3, _) =>
  (bif (v_2 != w_3) then (
  (idxN (s_1).length v_2).bind fun k4 =>
  (idxN (s_1).length w_3).bind fun k6 =>
  (((atO s_1 k4 fun e8 => some e8)).bind fun e9 => idxN (e9).length w_3).bind fun k10 =>
  ((atO s_1 k4 fun e11 => ((atO e11 k10 fun _ => some ((e11).set k10 true))).map fun z13 => (s_1).set k4 z13)).bind fun z14 =>
  (((atO z14 k6 fun e15 => some e15)).bind fun e16 => idxN (e16).length v_2).bind fun k17 =>
  ((atO z14 k6 fun e18 => ((atO e18 k17 fun _ => some ((e18).set k17 true))).map fun z20 => (z14).set k6 z20)).bind fun z21 =>
  some (z21, ())) else (
  some (s_1, ())))
set_option maxHeartbeats 4000000 in
theorem le_graph_Sets_Join (n_ : Nat) (a : ((List (List Bool)) × Int × Int × Unit)) : Le (e_graph_Sets_Join n_ a) (d_graph_Sets_Join a) := by
  unfold e_graph_Sets_Join d_graph_Sets_Join
  repeat' (first | with_reducible exact Le.refl _  | (with_reducible refine Le.bind ?_ (fun y => ?_)) | (with_reducible refine Le.bif ?_ ?_) | (with_reducible refine Le.loop (fun s => ?_) _ _) | (with_reducible refine Le.atO (fun e => ?_)) | split)
noncomputable def e_graph_Table (n_ : Nat) : (((List (List Int)) × Unit) × Unit) → Option ((List (List Bool)) × Unit) := fun (g_1, _) =>
  (e_graph_NewSets n_ ((((g_1.1).length : Nat) : Int), ())).bind fun (r2, _) =>
  (loopN (σ := (Int × (List (List Bool)) × Unit)) (ρ := ((List (List Bool)) × Unit)) (fun (s_3, s_4, _) =>
  (bif (decide (s_3 < (((g_1.1).length : Nat) : Int))) then (
  (getI g_1.1 s_3).bind fun y5 =>
  (loopN (σ := (Int × (List (List Bool)) × Unit)) (ρ := ((List (List Bool)) × Unit)) (fun (s_6, s_7, _) =>
  (bif (decide (s_6 < (((y5).length : Nat) : Int))) then (
  (getI y5 s_6).bind fun y8 =>
  (e_graph_Sets_Join n_ (s_7, s_3, y8, ())).bind fun (m9, _) =>
  some (.inl ((IntKind.i64.wrap (s_6 + ((1) : Int))), m9, ()))) else (
  some (.inr (s_7, ()))))) n_ (((0) : Int), s_4, ())).bind fun (s_10, _) =>
  some (.inl ((IntKind.i64.wrap (s_3 + ((1) : Int))), s_10, ()))) else (
  some (.inr (s_4, ()))))) n_ (((0) : Int), r2, ())).bind fun (s_11, _) =>
  some (s_11, ())
set_option maxHeartbeats 4000000 in
theorem le_graph_Table (n_ : Nat) (a : (((List (List Int)) × Unit) × Unit)) : Le (e_graph_Table n_ a) (d_graph_Table a) := by
  unfold e_graph_Table d_graph_Table
  repeat' (first | with_reducible exact Le.refl _ | with_reducible exact le_graph_Sets_Join _ _ | with_reducible exact le_graph_NewSets _ _ | (with_reducible refine Le.bind ?_ (fun y => ?_)) | (with_reducible refine Le.bif ?_ ?_) | (with_reducible refine Le.loop (fun s => ?_) _ _) | (with_reducible refine Le.atO (fun e => ?_)) | split)
noncomputable def e_mindeg_Start (n_ : Nat) : (((List (List Int)) × Unit) × Unit) → Option (((List (List Bool)) × ((List Bool) × Unit)) × Unit) := fun (g_1, _) =>
  (e_graph_Table n_ (g_1, ())).bind fun (r2, _) =>
  (madeO (((g_1.1).length : Nat) : Int) (((g_1.1).length : Nat) : Int)).bind fun n3 =>
  some ((r2, ((List.replicate n3 false), ())), ())
set_option maxHeartbeats 4000000 in
theorem le_mindeg_Start (n_ : Nat) (a : (((List (List Int)) × Unit) × Unit)) : Le (e_mindeg_Start n_ a) (d_mindeg_Start a) := by
  unfold e_mindeg_Start d_mindeg_Start
  repeat' (first | with_reducible exact Le.refl _ | with_reducible exact le_graph_Table _ _ | (with_reducible refine Le.bind ?_ (fun y => ?_)) | (with_reducible refine Le.bif ?_ ?_) | (with_reducible refine Le.loop (fun s => ?_) _ _) | (with_reducible refine Le.atO (fun e => ?_)) | split)
noncomputable def e_graph_Sets_List (n_ : Nat) : ((List (List Bool)) × Int × Unit) → Option ((List Int) × Unit) := fun (s_1, v_2, _) =>
  (getI s_1 v_2).bind fun y4 =>
  (loopN (σ := (Int × (List Int) × Unit)) (ρ := ((List Int) × Unit)) (fun (s_5, out_6, _) =>
  (bif (decide (s_5 < (((y4).length : Nat) : Int))) then (
  Option.bind (α := ((List Int) × Unit)) (
  (getI y4 s_5).bind fun y7 =>
  (bif y7 then (
  (limO ((out_6).length + ([s_5]).length)).bind fun _ =>
  some ((out_6 ++ [s_5]), ())) else (
  some (out_6, ())))) fun (out_8, _) =>
  some (.inl ((IntKind.i64.wrap (s_5 + ((1) : Int))), out_8, ()))) else (
  some (.inr (out_6, ()))))) n_ (((0) : Int), [], ())).bind fun (out_9, _) =>
  some (out_9, ())
set_option maxHeartbeats 4000000 in
theorem le_graph_Sets_List (n_ : Nat) (a : ((List (List Bool)) × Int × Unit)) : Le (e_graph_Sets_List n_ a) (d_graph_Sets_List a) := by
  unfold e_graph_Sets_List d_graph_Sets_List
  repeat' (first | with_reducible exact Le.refl _  | (with_reducible refine Le.bind ?_ (fun y => ?_)) | (with_reducible refine Le.bif ?_ ?_) | (with_reducible refine Le.loop (fun s => ?_) _ _) | (with_reducible refine Le.atO (fun e => ?_)) | split)
noncomputable def e_mindeg_Elimination_Eliminate (n_ : Nat) : (((List (List Bool)) × ((List Bool) × Unit)) × Int × Unit) → Option (((List (List Bool)) × ((List Bool) × Unit)) × (List Int) × Unit) := fun (x_1, v_2, _) =>
  (e_graph_Sets_List n_ (x_1.1, v_2, ())).bind fun (r3, _) =>
  (loopN (σ := (Int × ((List (List Bool)) × ((List Bool) × Unit)) × Unit)) (ρ := (((List (List Bool)) × ((List Bool) × Unit)) × Unit)) (fun (s_4, x_5, _) =>
  (bif (decide (s_4 < (((r3).length : Nat) : Int))) then (
  (getI r3 s_4).bind fun y6 =>
  ((some (0)).bind fun l7 => (natO s_4).bind fun l8 => (leO l7 l8 (r3).length).map fun _ => (l7, l8)).bind fun q9 =>
  (loopN (σ := (Int × ((List (List Bool)) × ((List Bool) × Unit)) × Unit)) (ρ := (((List (List Bool)) × ((List Bool) × Unit)) × Unit)) (fun (s_10, x_11, _) =>
  (bif (decide (s_10 < ((((((r3).take q9.2).drop q9.1)).length : Nat) : Int))) then (
  (getI (((r3).take q9.2).drop q9.1) s_10).bind fun y12 =>
  (e_graph_Sets_Join n_ (x_11.1, y6, y12, ())).bind fun (m13, _) =>
  some (.inl ((IntKind.i64.wrap (s_10 + ((1) : Int))), (m13, x_11.2), ()))) else (
  some (.inr (x_11, ()))))) n_ (((0) : Int), x_5, ())).bind fun (x_14, _) =>
  (idxN (x_14.1).length y6).bind fun k15 =>
  (idxN (x_14.1).length v_2).bind fun k17 =>
  (((atO x_14.1 k15 fun e19 => some e19)).bind fun e20 => idxN (e20).length v_2).bind fun k21 =>
  ((((atO x_14.1 k15 fun e22 => ((atO e22 k21 fun _ => some ((e22).set k21 false))).map fun z24 => (x_14.1).set k15 z24)).map fun z25 => (z25, x_14.2))).bind fun z26 =>
  (((atO z26.1 k17 fun e27 => some e27)).bind fun e28 => idxN (e28).length y6).bind fun k29 =>
  ((((atO z26.1 k17 fun e30 => ((atO e30 k29 fun _ => some ((e30).set k29 false))).map fun z32 => (z26.1).set k17 z32)).map fun z33 => (z33, z26.2))).bind fun z34 =>
  some (.inl ((IntKind.i64.wrap (s_4 + ((1) : Int))), z34, ()))) else (
  some (.inr (x_5, ()))))) n_ (((0) : Int), x_1, ())).bind fun (x_35, _) =>
  (idxN (x_35.2.1).length v_2).bind fun k36 =>
  ((((((atO x_35.2.1 k36 fun _ => some ((x_35.2.1).set k36 true))).map fun z38 => (z38, x_35.2.2))).map fun z39 => (x_35.1, z39))).bind fun z40 =>
  some (z40, r3, ())
set_option maxHeartbeats 4000000 in
theorem le_mindeg_Elimination_Eliminate (n_ : Nat) (a : (((List (List Bool)) × ((List Bool) × Unit)) × Int × Unit)) : Le (e_mindeg_Elimination_Eliminate n_ a) (d_mindeg_Elimination_Eliminate a) := by
  unfold e_mindeg_Elimination_Eliminate d_mindeg_Elimination_Eliminate
  repeat' (first | with_reducible exact Le.refl _ | with_reducible exact le_graph_Sets_List _ _ | with_reducible exact le_graph_Sets_Join _ _ | (with_reducible refine Le.bind ?_ (fun y => ?_)) | (with_reducible refine Le.bif ?_ ?_) | (with_reducible refine Le.loop (fun s => ?_) _ _) | (with_reducible refine Le.atO (fun e => ?_)) | split)
noncomputable def e_mindeg_Exact (n_ : Nat) : (((List (List Int)) × Unit) × Unit) → Option ((List Int) × Int × Unit) := fun (g_1, _) =>
  (e_graph_Check n_ (g_1, ())).bind fun (r31, _) =>
  (bif (r31 != ((0) : Int)) then (
  some ([], r31, ())) else (
  (e_mindeg_Start n_ (g_1, ())).bind fun (r32, _) =>
  (loopN (σ := (Int × ((List (List Bool)) × ((List Bool) × Unit)) × (List Int) × Unit)) (ρ := ((List Int) × Unit)) (fun (s_33, x_34, out_35, _) =>
  (bif (decide (s_33 < (((g_1.1).length : Nat) : Int))) then (
  (loopN (σ := (Int × Int × Int × ((List (List Bool)) × ((List Bool) × Unit)) × (List Int) × Unit)) (ρ := (Int × ((List (List Bool)) × ((List Bool) × Unit)) × (List Int) × Unit)) (fun (best_36, least_37, s_38, x_39, out_40, _) =>
  (bif (decide (s_38 < (((g_1.1).length : Nat) : Int))) then (
  Option.bind (α := (Int × Int × ((List (List Bool)) × ((List Bool) × Unit)) × (List Int) × Unit)) (
  (e_graph_Sets_List n_ (x_39.1, s_38, ())).bind fun (r41, _) =>
  Option.bind (α := (Bool × ((List (List Bool)) × ((List Bool) × Unit)) × (List Int) × Unit)) (
  (idxN (x_39.2.1).length s_38).bind fun k42 =>
  ((atO x_39.2.1 k42 fun e43 => some e43)).bind fun y44 =>
  (bif ((!y44) == true) then ((bif ((decide (best_36 < ((0) : Int))) == false) then (some ((decide ((((r41).length : Nat) : Int) < least_37)), x_39, out_40, ())) else (some (true, x_39, out_40, ())))) else (some (false, x_39, out_40, ())))) fun (s_45, x_46, out_47, _) =>
  (bif s_45 then (
  some (s_38, (((r41).length : Nat) : Int), x_46, out_47, ())) else (
  some (best_36, least_37, x_46, out_47, ())))) fun (best_48, least_49, x_50, out_51, _) =>
  some (.inl (best_48, least_49, (IntKind.i64.wrap (s_38 + ((1) : Int))), x_50, out_51, ()))) else (
  some (.inr (best_36, x_39, out_40, ()))))) n_ ((-1 : Int), ((0) : Int), ((0) : Int), x_34, out_35, ())).bind fun (best_52, x_53, out_54, _) =>
  (e_mindeg_Elimination_Eliminate n_ (x_53, best_52, ())).bind fun (m55, _, _) =>
  (limO ((out_54).length + ([best_52]).length)).bind fun _ =>
  some (.inl ((IntKind.i64.wrap (s_33 + ((1) : Int))), m55, (out_54 ++ [best_52]), ()))) else (
  some (.inr (out_35, ()))))) n_ (((0) : Int), r32, [], ())).bind fun (out_57, _) =>
  some (out_57, ((0) : Int), ())))
set_option maxHeartbeats 4000000 in
theorem le_mindeg_Exact (n_ : Nat) (a : (((List (List Int)) × Unit) × Unit)) : Le (e_mindeg_Exact n_ a) (d_mindeg_Exact a) := by
  unfold e_mindeg_Exact d_mindeg_Exact
  repeat' (first | with_reducible exact Le.refl _ | with_reducible exact le_graph_Check _ _ | with_reducible exact le_mindeg_Start _ _ | with_reducible exact le_graph_Sets_List _ _ | with_reducible exact le_mindeg_Elimination_Eliminate _ _ | (with_reducible refine Le.bind ?_ (fun y => ?_)) | (with_reducible refine Le.bif ?_ ?_) | (with_reducible refine Le.loop (fun s => ?_) _ _) | (with_reducible refine Le.atO (fun e => ?_)) | split)
noncomputable def e_graph_vertex (n_ : Nat) : (((List (List Int)) × Unit) × Int × Unit) → Option (Bool × Unit) := fun (g_1, v_2, _) =>
  (bif ((decide (v_2 ≥ ((0) : Int))) == true) then (some ((decide (v_2 < (((g_1.1).length : Nat) : Int))), ())) else (some (false, ())))
set_option maxHeartbeats 4000000 in
theorem le_graph_vertex (n_ : Nat) (a : (((List (List Int)) × Unit) × Int × Unit)) : Le (e_graph_vertex n_ a) (d_graph_vertex a) := by
  unfold e_graph_vertex d_graph_vertex
  repeat' (first | with_reducible exact Le.refl _  | (with_reducible refine Le.bind ?_ (fun y => ?_)) | (with_reducible refine Le.bif ?_ ?_) | (with_reducible refine Le.loop (fun s => ?_) _ _) | (with_reducible refine Le.atO (fun e => ?_)) | split)
noncomputable def e_math_bits_Len64 (n_ : Nat) : (Int × Unit) → Option (Int × Unit) := fun (x_1, _) =>
  Option.bind (α := (Int × Int × Unit)) (
  (bif (decide (x_1 ≥ ((4294967296) : Int))) then (
  (shrO IntKind.u64 x_1 ((32) : Int)).bind fun y2 =>
  some (y2, ((32) : Int), ())) else (
  some (x_1, ((0) : Int), ())))) fun (x_3, n_4, _) =>
  Option.bind (α := (Int × Int × Unit)) (
  (bif (decide (x_3 ≥ ((65536) : Int))) then (
  (shrO IntKind.u64 x_3 ((16) : Int)).bind fun y5 =>
  some (y5, (IntKind.i64.wrap (n_4 + ((16) : Int))), ())) else (
  some (x_3, n_4, ())))) fun (x_6, n_7, _) =>
  Option.bind (α := (Int × Int × Unit)) (
  (bif (decide (x_6 ≥ ((256) : Int))) then (
  (shrO IntKind.u64 x_6 ((8) : Int)).bind fun y8 =>
  some (y8, (IntKind.i64.wrap (n_7 + ((8) : Int))), ())) else (
  some (x_6, n_7, ())))) fun (x_9, n_10, _) =>
  (strI lenTab (IntKind.u8.wrap x_9)).bind fun c11 =>
  some ((IntKind.i64.wrap (n_10 + (IntKind.i64.wrap c11))), ())
set_option maxHeartbeats 4000000 in
theorem le_math_bits_Len64 (n_ : Nat) (a : (Int × Unit)) : Le (e_math_bits_Len64 n_ a) (d_math_bits_Len64 a) := by
  unfold e_math_bits_Len64 d_math_bits_Len64
  repeat' (first | with_reducible exact Le.refl _  | (with_reducible refine Le.bind ?_ (fun y => ?_)) | (with_reducible refine Le.bif ?_ ?_) | (with_reducible refine Le.loop (fun s => ?_) _ _) | (with_reducible refine Le.atO (fun e => ?_)) | split)
noncomputable def e_math_bits_Len (n_ : Nat) : (Int × Unit) → Option (Int × Unit) := fun (x_1, _) =>
  (e_math_bits_Len64 n_ (x_1, ())).bind fun (r2, _) =>
  some (r2, ())
set_option maxHeartbeats 4000000 in
theorem le_math_bits_Len (n_ : Nat) (a : (Int × Unit)) : Le (e_math_bits_Len n_ a) (d_math_bits_Len a) := by
  unfold e_math_bits_Len d_math_bits_Len
  repeat' (first | with_reducible exact Le.refl _ | with_reducible exact le_math_bits_Len64 _ _ | (with_reducible refine Le.bind ?_ (fun y => ?_)) | (with_reducible refine Le.bif ?_ ?_) | (with_reducible refine Le.loop (fun s => ?_) _ _) | (with_reducible refine Le.atO (fun e => ?_)) | split)
noncomputable def e_slices_insertionSortOrdered_int (n_ : Nat) : ((List Int) × Int × Int × Unit) → Option ((List Int) × Unit) := fun (data_1, a_2, b_3, _) =>
  (loopN (σ := (Int × (List Int) × Unit)) (ρ := ((List Int) × Unit)) (fun (i_4, data_5, _) =>
  (bif (decide (i_4 < b_3)) then (
  (loopN (σ := (Int × (List Int) × Unit)) (ρ := ((List Int) × Unit)) (fun (j_6, data_7, _) =>
  Option.bind (α := ((List Int) × Unit) ⊕ ((Int × (List Int) × Unit) ⊕ ((List Int) × Unit))) (
  (bif ((decide (j_6 > a_2)) == true) then ((idxN (data_7).length j_6).bind fun k8 =>
  ((atO data_7 k8 fun e9 => some e9)).bind fun y10 =>
  (idxN (data_7).length (IntKind.i64.wrap (j_6 - ((1) : Int)))).bind fun k11 =>
  ((atO data_7 k11 fun e12 => some e12)).bind fun y13 =>
  (e_cmp_Less_int n_ (y10, y13, ())).bind fun (r14, _) =>
  (bif r14 then (
  some (.inl (data_7, ()))) else (
  some (.inr (.inr (data_7, ())))))) else (some (.inr (.inr (data_7, ())))))) fun q => match q with
  | .inl (data_15, _) => (
  (idxN (data_15).length (IntKind.i64.wrap (j_6 - ((1) : Int)))).bind fun k16 =>
  ((atO data_15 k16 fun e17 => some e17)).bind fun y18 =>
  (idxN (data_15).length j_6).bind fun k19 =>
  ((atO data_15 k19 fun e20 => some e20)).bind fun y21 =>
  (idxN (data_15).length j_6).bind fun k22 =>
  ((atO data_15 k22 fun _ => some ((data_15).set k22 y18))).bind fun z24 =>
  (idxN (z24).length (IntKind.i64.wrap (j_6 - ((1) : Int)))).bind fun k25 =>
  ((atO z24 k25 fun _ => some ((z24).set k25 y21))).bind fun z27 =>
  some (.inl ((IntKind.i64.wrap (j_6 - ((1) : Int))), z27, ())))
  | .inr r => some r) n_ (i_4, data_5, ())).bind fun (data_28, _) =>
  some (.inl ((IntKind.i64.wrap (i_4 + ((1) : Int))), data_28, ()))) else (
  some (.inr (data_5, ()))))) n_ ((IntKind.i64.wrap (a_2 + ((1) : Int))), data_1, ())).bind fun (data_29, _) =>
  some (data_29, ())
set_option maxHeartbeats 4000000 in
theorem le_slices_insertionSortOrdered_int (n_ : Nat) (a : ((List Int) × Int × Int × Unit)) : Le (e_slices_insertionSortOrdered_int n_ a) (d_slices_insertionSortOrdered_int a) := by
  unfold e_slices_insertionSortOrdered_int d_slices_insertionSortOrdered_int
  repeat' (first | with_reducible exact Le.refl _ | with_reducible exact le_cmp_Less_int _ _ | (with_reducible refine Le.bind ?_ (fun y => ?_)) | (with_reducible refine Le.bif ?_ ?_) | (with_reducible refine Le.loop (fun s => ?_) _ _) | (with_reducible refine Le.atO (fun e => ?_)) | split)
noncomputable def e_slices_siftDownOrdered_int (n_ : Nat) : ((List Int) × Int × Int × Int × Unit) → Option ((List Int) × Unit) := fun (data_1, lo_2, hi_3, first_4, _) =>
  (loopN (σ := (Int × (List Int) × Unit)) (ρ := (((List Int) × Unit) ⊕ ((List Int) × Unit))) (fun (root_5, data_6, _) =>
  (bif (decide ((IntKind.i64.wrap ((IntKind.i64.wrap (((2) : Int) * root_5)) + ((1) : Int))) ≥ hi_3)) then (
  some (.inr (.inl (data_6, ())))) else (
  Option.bind (α := (Int × (List Int) × Unit)) (
  Option.bind (α := (Bool × (List Int) × Unit)) (
  (bif ((decide ((IntKind.i64.wrap ((IntKind.i64.wrap ((IntKind.i64.wrap (((2) : Int) * root_5)) + ((1) : Int))) + ((1) : Int))) < hi_3)) == true) then ((idxN (data_6).length (IntKind.i64.wrap (first_4 + (IntKind.i64.wrap ((IntKind.i64.wrap (((2) : Int) * root_5)) + ((1) : Int)))))).bind fun k7 =>
  ((atO data_6 k7 fun e8 => some e8)).bind fun y9 =>
  (idxN (data_6).length (IntKind.i64.wrap ((IntKind.i64.wrap (first_4 + (IntKind.i64.wrap ((IntKind.i64.wrap (((2) : Int) * root_5)) + ((1) : Int))))) + ((1) : Int)))).bind fun k10 =>
  ((atO data_6 k10 fun e11 => some e11)).bind fun y12 =>
  (e_cmp_Less_int n_ (y9, y12, ())).bind fun (r13, _) =>
  some (r13, data_6, ())) else (some (false, data_6, ())))) fun (s_14, data_15, _) =>
  (bif s_14 then (
  some ((IntKind.i64.wrap ((IntKind.i64.wrap ((IntKind.i64.wrap (((2) : Int) * root_5)) + ((1) : Int))) + ((1) : Int))), data_15, ())) else (
  some ((IntKind.i64.wrap ((IntKind.i64.wrap (((2) : Int) * root_5)) + ((1) : Int))), data_15, ())))) fun (child_16, data_17, _) =>
  (idxN (data_17).length (IntKind.i64.wrap (first_4 + root_5))).bind fun k18 =>
  ((atO data_17 k18 fun e19 => some e19)).bind fun y20 =>
  (idxN (data_17).length (IntKind.i64.wrap (first_4 + child_16))).bind fun k21 =>
  ((atO data_17 k21 fun e22 => some e22)).bind fun y23 =>
  (e_cmp_Less_int n_ (y20, y23, ())).bind fun (r24, _) =>
  (bif (!r24) then (
  some (.inr (.inr (data_17, ())))) else (
  (idxN (data_17).length (IntKind.i64.wrap (first_4 + child_16))).bind fun k25 =>
  ((atO data_17 k25 fun e26 => some e26)).bind fun y27 =>
  (idxN (data_17).length (IntKind.i64.wrap (first_4 + root_5))).bind fun k28 =>
  ((atO data_17 k28 fun e29 => some e29)).bind fun y30 =>
  (idxN (data_17).length (IntKind.i64.wrap (first_4 + root_5))).bind fun k31 =>
  ((atO data_17 k31 fun _ => some ((data_17).set k31 y27))).bind fun z33 =>
  (idxN (z33).length (IntKind.i64.wrap (first_4 + child_16))).bind fun k34 =>
  ((atO z33 k34 fun _ => some ((z33).set k34 y30))).bind fun z36 =>
  some (.inl (child_16, z36, ()))))))) n_ (lo_2, data_1, ())).bind fun q => match q with
  | .inl (data_37, _) => (
  some (data_37, ()))
  | .inr r => some r
set_option maxHeartbeats 4000000 in
theorem le_slices_siftDownOrdered_int (n_ : Nat) (a : ((List Int) × Int × Int × Int × Unit)) : Le (e_slices_siftDownOrdered_int n_ a) (d_slices_siftDownOrdered_int a) := by
  unfold e_slices_siftDownOrdered_int d_slices_siftDownOrdered_int
  repeat' (first | with_reducible exact Le.refl _ | with_reducible exact le_cmp_Less_int _ _ | (with_reducible refine Le.bind ?_ (fun y => ?_)) | (with_reducible refine Le.bif ?_ ?_) | (with_reducible refine Le.loop (fun s => ?_) _ _) | (with_reducible refine Le.atO (fun e => ?_)) | split)
noncomputable def e_slices_heapSortOrdered_int (n_ : Nat) : ((List Int) × Int × Int × Unit) → Option ((List Int) × Unit) := fun (data_1, a_2, b_3, _) =>
  (quoO IntKind.i64 (IntKind.i64.wrap ((IntKind.i64.wrap (b_3 - a_2)) - ((1) : Int))) ((2) : Int)).bind fun y4 =>
  (loopN (σ := (Int × (List Int) × Unit)) (ρ := ((List Int) × Unit)) (fun (i_5, data_6, _) =>
  (bif (decide (i_5 ≥ ((0) : Int))) then (
  (e_slices_siftDownOrdered_int n_ (data_6, i_5, (IntKind.i64.wrap (b_3 - a_2)), a_2, ())).bind fun (m7, _) =>
  some (.inl ((IntKind.i64.wrap (i_5 - ((1) : Int))), m7, ()))) else (
  some (.inr (data_6, ()))))) n_ (y4, data_1, ())).bind fun (data_8, _) =>
  (loopN (σ := (Int × (List Int) × Unit)) (ρ := ((List Int) × Unit)) (fun (i_9, data_10, _) =>
  (bif (decide (i_9 ≥ ((0) : Int))) then (
  (idxN (data_10).length (IntKind.i64.wrap (a_2 + i_9))).bind fun k11 =>
  ((atO data_10 k11 fun e12 => some e12)).bind fun y13 =>
  (idxN (data_10).length a_2).bind fun k14 =>
  ((atO data_10 k14 fun e15 => some e15)).bind fun y16 =>
  (idxN (data_10).length a_2).bind fun k17 =>
  ((atO data_10 k17 fun _ => some ((data_10).set k17 y13))).bind fun z19 =>
  (idxN (z19).length (IntKind.i64.wrap (a_2 + i_9))).bind fun k20 =>
  ((atO z19 k20 fun _ => some ((z19).set k20 y16))).bind fun z22 =>
  (e_slices_siftDownOrdered_int n_ (z22, ((0) : Int), i_9, a_2, ())).bind fun (m23, _) =>
  some (.inl ((IntKind.i64.wrap (i_9 - ((1) : Int))), m23, ()))) else (
  some (.inr (data_10, ()))))) n_ ((IntKind.i64.wrap ((IntKind.i64.wrap (b_3 - a_2)) - ((1) : Int))), data_8, ())).bind fun (data_24, _) =>
  some (data_24, ())
set_option maxHeartbeats 4000000 in
theorem le_slices_heapSortOrdered_int (n_ : Nat) (a : ((List Int) × Int × Int × Unit)) : Le (e_slices_heapSortOrdered_int n_ a) (d_slices_heapSortOrdered_int a) := by
  unfold e_slices_heapSortOrdered_int d_slices_heapSortOrdered_int
  repeat' (first | with_reducible exact Le.refl _ | with_reducible exact le_slices_siftDownOrdered_int _ _ | (with_reducible refine Le.bind ?_ (fun y => ?_)) | (with_reducible refine Le.bif ?_ ?_) | (with_reducible refine Le.loop (fun s => ?_) _ _) | (with_reducible refine Le.atO (fun e => ?_)) | split)
noncomputable def e_slices_nextPowerOfTwo (n_ : Nat) : (Int × Unit) → Option (Int × Unit) := fun (length_1, _) =>
  (e_math_bits_Len n_ ((IntKind.u64.wrap length_1), ())).bind fun (r2, _) =>
  (shlO IntKind.u64 ((1) : Int) r2).bind fun y3 =>
  some (y3, ())
set_option maxHeartbeats 4000000 in
theorem le_slices_nextPowerOfTwo (n_ : Nat) (a : (Int × Unit)) : Le (e_slices_nextPowerOfTwo n_ a) (d_slices_nextPowerOfTwo a) := by
  unfold e_slices_nextPowerOfTwo d_slices_nextPowerOfTwo
  repeat' (first | with_reducible exact Le.refl _ | with_reducible exact le_math_bits_Len _ _ | (with_reducible refine Le.bind ?_ (fun y => ?_)) | (with_reducible refine Le.bif ?_ ?_) | (with_reducible refine Le.loop (fun s => ?_) _ _) | (with_reducible refine Le.atO (fun e => ?_)) | split)
noncomputable def e_slices_xorshift_Next (n_ : Nat) : (Int × Unit) → Option (Int × Int × Unit) := fun (r_1, _) =>
  (shlO IntKind.u64 r_1 ((13) : Int)).bind fun y2 =>
  (shrO IntKind.u64 (xorI IntKind.u64 r_1 y2) ((7) : Int)).bind fun y3 =>
  (shlO IntKind.u64 (xorI IntKind.u64 (xorI IntKind.u64 r_1 y2) y3) ((17) : Int)).bind fun y4 =>
  some ((xorI IntKind.u64 (xorI IntKind.u64 (xorI IntKind.u64 r_1 y2) y3) y4), (xorI IntKind.u64 (xorI IntKind.u64 (xorI IntKind.u64 r_1 y2) y3) y4), ())
set_option maxHeartbeats 4000000 in
theorem le_slices_xorshift_Next (n_ : Nat) (a : (Int × Unit)) : Le (e_slices_xorshift_Next n_ a) (d_slices_xorshift_Next a) := by
  unfold e_slices_xorshift_Next d_slices_xorshift_Next
  repeat' (first | with_reducible exact Le.refl _  | (with_reducible refine Le.bind ?_ (fun y => ?_)) | (with_reducible refine Le.bif ?_ ?_) | (with_reducible refine Le.loop (fun s => ?_) _ _) | (with_reducible refine Le.atO (fun e => ?_)) | split)
noncomputable def e_slices_breakPatternsOrdered_int (n_ : Nat) : ((List Int) × Int × Int × Unit) → Option ((List Int) × Unit) := fun (data_1, a_2, b_3, _) =>
  (bif (decide ((IntKind.i64.wrap (b_3 - a_2)) ≥ ((8) : Int))) then (
  (e_slices_nextPowerOfTwo n_ ((IntKind.i64.wrap (b_3 - a_2)), ())).bind fun (r4, _) =>
  (quoO IntKind.i64 (IntKind.i64.wrap (b_3 - a_2)) ((4) : Int)).bind fun y5 =>
  (loopN (σ := (Int × (List Int) × Int × Unit)) (ρ := ((List Int) × Unit)) (fun (idx_6, data_7, random_8, _) =>
  (quoO IntKind.i64 (IntKind.i64.wrap (b_3 - a_2)) ((4) : Int)).bind fun y9 =>
  (bif (decide (idx_6 ≤ (IntKind.i64.wrap ((IntKind.i64.wrap (a_2 + (IntKind.i64.wrap (y9 * ((2) : Int))))) + ((1) : Int))))) then (
  Option.bind (α := ((List Int) × Int × Unit)) (
  (e_slices_xorshift_Next n_ (random_8, ())).bind fun (m10, r11, _) =>
  Option.bind (α := (Int × (List Int) × Int × Unit)) (
  (bif (decide ((IntKind.i64.wrap (andI IntKind.u64 r11 (IntKind.u64.wrap (r4 - ((1) : Int))))) ≥ (IntKind.i64.wrap (b_3 - a_2)))) then (
  some ((IntKind.i64.wrap ((IntKind.i64.wrap (andI IntKind.u64 r11 (IntKind.u64.wrap (r4 - ((1) : Int))))) - (IntKind.i64.wrap (b_3 - a_2)))), data_7, m10, ())) else (
  some ((IntKind.i64.wrap (andI IntKind.u64 r11 (IntKind.u64.wrap (r4 - ((1) : Int))))), data_7, m10, ())))) fun (other_12, data_13, random_14, _) =>
  (idxN (data_13).length (IntKind.i64.wrap (a_2 + other_12))).bind fun k15 =>
  ((atO data_13 k15 fun e16 => some e16)).bind fun y17 =>
  (idxN (data_13).length idx_6).bind fun k18 =>
  ((atO data_13 k18 fun e19 => some e19)).bind fun y20 =>
  (idxN (data_13).length idx_6).bind fun k21 =>
  ((atO data_13 k21 fun _ => some ((data_13).set k21 y17))).bind fun z23 =>
  (idxN (z23).length (IntKind.i64.wrap (a_2 + other_12))).bind fun k24 =>
  ((atO z23 k24 fun _ => some ((z23).set k24 y20))).bind fun z26 =>
  some (z26, random_14, ())) fun (data_27, random_28, _) =>
  some (.inl ((IntKind.i64.wrap (idx_6 + ((1) : Int))), data_27, random_28, ()))) else (
  some (.inr (data_7, ()))))) n_ ((IntKind.i64.wrap ((IntKind.i64.wrap (a_2 + (IntKind.i64.wrap (y5 * ((2) : Int))))) - ((1) : Int))), data_1, (IntKind.u64.wrap (IntKind.i64.wrap (b_3 - a_2))), ())).bind fun (data_29, _) =>
  some (data_29, ())) else (
  some (data_1, ())))
set_option maxHeartbeats 4000000 in
theorem le_slices_breakPatternsOrdered_int (n_ : Nat) (a : ((List Int) × Int × Int × Unit)) : Le (e_slices_breakPatternsOrdered_int n_ a) (d_slices_breakPatternsOrdered_int a) := by
  unfold e_slices_breakPatternsOrdered_int d_slices_breakPatternsOrdered_int
  repeat' (first | with_reducible exact Le.refl _ | with_reducible exact le_slices_nextPowerOfTwo _ _ | with_reducible exact le_slices_xorshift_Next _ _ | (with_reducible refine Le.bind ?_ (fun y => ?_)) | (with_reducible refine Le.bif ?_ ?_) | (with_reducible refine Le.loop (fun s => ?_) _ _) | (with_reducible refine Le.atO (fun e => ?_)) | split)
noncomputable def e_slices_order2Ordered_int (n_ : Nat) : ((List Int) × Int × Int × Int × Unit) → Option (Int × Int × Int × Unit) := fun (data_1, a_2, b_3, swaps_4, _) =>
  (getI data_1 b_3).bind fun y5 =>
  (getI data_1 a_2).bind fun y6 =>
  (e_cmp_Less_int n_ (y5, y6, ())).bind fun (r7, _) =>
  (bif r7 then (
  some ((IntKind.i64.wrap (swaps_4 + ((1) : Int))), b_3, a_2, ())) else (
  some (swaps_4, a_2, b_3, ())))
set_option maxHeartbeats 4000000 in
theorem le_slices_order2Ordered_int (n_ : Nat) (a : ((List Int) × Int × Int × Int × Unit)) : Le (e_slices_order2Ordered_int n_ a) (d_slices_order2Ordered_int a) := by
  unfold e_slices_order2Ordered_int d_slices_order2Ordered_int
  repeat' (first | with_reducible exact Le.refl _ | with_reducible exact le_cmp_Less_int _ _ | (with_reducible refine Le.bind ?_ (fun y => ?_)) | (with_reducible refine Le.bif ?_ ?_) | (with_reducible refine Le.loop (fun s => ?_) _ _) | (with_reducible refine Le.atO (fun e => ?_)) | split)
noncomputable def e_slices_medianOrdered_int (n_ : Nat) : ((List Int) × Int × Int × Int × Int × Unit) → Option (Int × Int × Unit) := fun (data_1, a_2, b_3, c_4, swaps_5, _) =>
  (e_slices_order2Ordered_int n_ (data_1, a_2, b_3, swaps_5, ())).bind fun (m6, r7, r8, _) =>
  (e_slices_order2Ordered_int n_ (data_1, r8, c_4, m6, ())).bind fun (m9, r10, _, _) =>
  (e_slices_order2Ordered_int n_ (data_1, r7, r10, m9, ())).bind fun (m12, _, r14, _) =>
  some (m12, r14, ())
set_option maxHeartbeats 4000000 in
theorem le_slices_medianOrdered_int (n_ : Nat) (a : ((List Int) × Int × Int × Int × Int × Unit)) : Le (e_slices_medianOrdered_int n_ a) (d_slices_medianOrdered_int a) := by
  unfold e_slices_medianOrdered_int d_slices_medianOrdered_int
  repeat' (first | with_reducible exact Le.refl _ | with_reducible exact le_slices_order2Ordered_int _ _ | (with_reducible refine Le.bind ?_ (fun y => ?_)) | (with_reducible refine Le.bif ?_ ?_) | (with_reducible refine Le.loop (fun s => ?_) _ _) | (with_reducible refine Le.atO (fun e => ?_)) | split)
noncomputable def e_slices_medianAdjacentOrdered_int (n_ : Nat) : ((List Int) × Int × Int × Unit) → Option (Int × Int × Unit) := fun (data_1, a_2, swaps_3, _) =>
  (e_slices_medianOrdered_int n_ (data_1, (IntKind.i64.wrap (a_2 - ((1) : Int))), a_2, (IntKind.i64.wrap (a_2 + ((1) : Int))), swaps_3, ())).bind fun (m4, r5, _) =>
  some (m4, r5, ())
set_option maxHeartbeats 4000000 in
theorem le_slices_medianAdjacentOrdered_int (n_ : Nat) (a : ((List Int) × Int × Int × Unit)) : Le (e_slices_medianAdjacentOrdered_int n_ a) (d_slices_medianAdjacentOrdered_int a) := by
  unfold e_slices_medianAdjacentOrdered_int d_slices_medianAdjacentOrdered_int
  repeat' (first | with_reducible exact Le.refl _ | with_reducible exact le_slices_medianOrdered_int _ _ | (with_reducible refine Le.bind ?_ (fun y => ?_)) | (with_reducible refine Le.bif ?_ ?_) | (with_reducible refine Le.loop (fun s => ?_) _ _) | (with_reducible refine Le.atO (fun e => ?_)) | split)
noncomputable def e_slices_choosePivotOrdered_int (n_ : Nat) : ((List Int) × Int × Int × Unit) → Option (Int × Int × Unit) := fun (data_1, a_2, b_3, _) =>
  (quoO IntKind.i64 (IntKind.i64.wrap (b_3 - a_2)) ((4) : Int)).bind fun y4 =>
  (quoO IntKind.i64 (IntKind.i64.wrap (b_3 - a_2)) ((4) : Int)).bind fun y5 =>
  (quoO IntKind.i64 (IntKind.i64.wrap (b_3 - a_2)) ((4) : Int)).bind fun y6 =>
  Option.bind (α := (Int × Int × Unit)) (
  (bif (decide ((IntKind.i64.wrap (b_3 - a_2)) ≥ ((8) : Int))) then (
  Option.bind (α := (Int × Int × Int × Int × Unit)) (
  (bif (decide ((IntKind.i64.wrap (b_3 - a_2)) ≥ ((50) : Int))) then (
  (e_slices_medianAdjacentOrdered_int n_ (data_1, (IntKind.i64.wrap (a_2 + (IntKind.i64.wrap (y4 * ((1) : Int))))), (0 : Int), ())).bind fun (m7, r8, _) =>
  (e_slices_medianAdjacentOrdered_int n_ (data_1, (IntKind.i64.wrap (a_2 + (IntKind.i64.wrap (y5 * ((2) : Int))))), m7, ())).bind fun (m9, r10, _) =>
  (e_slices_medianAdjacentOrdered_int n_ (data_1, (IntKind.i64.wrap (a_2 + (IntKind.i64.wrap (y6 * ((3) : Int))))), m9, ())).bind fun (m11, r12, _) =>
  some (r8, r10, r12, m11, ())) else (
  some ((IntKind.i64.wrap (a_2 + (IntKind.i64.wrap (y4 * ((1) : Int))))), (IntKind.i64.wrap (a_2 + (IntKind.i64.wrap (y5 * ((2) : Int))))), (IntKind.i64.wrap (a_2 + (IntKind.i64.wrap (y6 * ((3) : Int))))), (0 : Int), ())))) fun (i_13, j_14, k_15, swaps_16, _) =>
  (e_slices_medianOrdered_int n_ (data_1, i_13, j_14, k_15, swaps_16, ())).bind fun (m17, r18, _) =>
  some (r18, m17, ())) else (
  some ((IntKind.i64.wrap (a_2 + (IntKind.i64.wrap (y5 * ((2) : Int))))), (0 : Int), ())))) fun (j_19, swaps_20, _) =>
  (bif (swaps_20 == ((0) : Int)) then (
  some (j_19, ((1) : Int), ())) else (
  (bif (swaps_20 == ((12) : Int)) then (
  some (j_19, ((2) : Int), ())) else (
  some (j_19, ((0) : Int), ())))))
set_option maxHeartbeats 4000000 in
theorem le_slices_choosePivotOrdered_int (n_ : Nat) (a : ((List Int) × Int × Int × Unit)) : Le (e_slices_choosePivotOrdered_int n_ a) (d_slices_choosePivotOrdered_int a) := by
  unfold e_slices_choosePivotOrdered_int d_slices_choosePivotOrdered_int
  repeat' (first | with_reducible exact Le.refl _ | with_reducible exact le_slices_medianAdjacentOrdered_int _ _ | with_reducible exact le_slices_medianOrdered_int _ _ | (with_reducible refine Le.bind ?_ (fun y => ?_)) | (with_reducible refine Le.bif ?_ ?_) | (with_reducible refine Le.loop (fun s => ?_) _ _) | (with_reducible refine Le.atO (fun e => ?_)) | split)
noncomputable def e_slices_reverseRangeOrdered_int (n_ : Nat) : ((List Int) × Int × Int × Unit) → Option ((List Int) × Unit) := fun (data_1, a_2, b_3, _) =>
  (loopN (σ := (Int × Int × (List Int) × Unit)) (ρ := ((List Int) × Unit)) (fun (i_4, j_5, data_6, _) =>
  (bif (decide (i_4 < j_5)) then (
  (idxN (data_6).length j_5).bind fun k7 =>
  ((atO data_6 k7 fun e8 => some e8)).bind fun y9 =>
  (idxN (data_6).length i_4).bind fun k10 =>
  ((atO data_6 k10 fun e11 => some e11)).bind fun y12 =>
  (idxN (data_6).length i_4).bind fun k13 =>
  ((atO data_6 k13 fun _ => some ((data_6).set k13 y9))).bind fun z15 =>
  (idxN (z15).length j_5).bind fun k16 =>
  ((atO z15 k16 fun _ => some ((z15).set k16 y12))).bind fun z18 =>
  some (.inl ((IntKind.i64.wrap (i_4 + ((1) : Int))), (IntKind.i64.wrap (j_5 - ((1) : Int))), z18, ()))) else (
  some (.inr (data_6, ()))))) n_ (a_2, (IntKind.i64.wrap (b_3 - ((1) : Int))), data_1, ())).bind fun (data_19, _) =>
  some (data_19, ())
set_option maxHeartbeats 4000000 in
theorem le_slices_reverseRangeOrdered_int (n_ : Nat) (a : ((List Int) × Int × Int × Unit)) : Le (e_slices_reverseRangeOrdered_int n_ a) (d_slices_reverseRangeOrdered_int a) := by
  unfold e_slices_reverseRangeOrdered_int d_slices_reverseRangeOrdered_int
  repeat' (first | with_reducible exact Le.refl _  | (with_reducible refine Le.bind ?_ (fun y => ?_)) | (with_reducible refine Le.bif ?_ ?_) | (with_reducible refine Le.loop (fun s => ?_) _ _) | (with_reducible refine Le.atO (fun e => ?_)) | split)
noncomputable def e_slices_partialInsertionSortOrdered_int (n_ : Nat) : ((List Int) × Int × Int × Unit) → Option ((List Int) × Bool × Unit) := fun (data_1, a_2, b_3, _) =>
  (loopN (σ := (Int × Int × (List Int) × Unit)) (ρ := (((List Int) × Unit) ⊕ ((List Int) × Bool × Unit))) (fun (i_4, j_5, data_6, _) =>
  (bif (decide (j_5 < ((5) : Int))) then (
  Option.bind (α := (Int × (List Int) × Unit) ⊕ ((Int × Int × (List Int) × Unit) ⊕ (((List Int) × Unit) ⊕ ((List Int) × Bool × Unit)))) (
  (loopN (σ := (Int × (List Int) × Unit)) (ρ := (Int × (List Int) × Unit)) (fun (i_7, data_8, _) =>
  Option.bind (α := ((List Int) × Unit) ⊕ ((Int × (List Int) × Unit) ⊕ (Int × (List Int) × Unit))) (
  (bif ((decide (i_7 < b_3)) == true) then ((idxN (data_8).length i_7).bind fun k9 =>
  ((atO data_8 k9 fun e10 => some e10)).bind fun y11 =>
  (idxN (data_8).length (IntKind.i64.wrap (i_7 - ((1) : Int)))).bind fun k12 =>
  ((atO data_8 k12 fun e13 => some e13)).bind fun y14 =>
  (e_cmp_Less_int n_ (y11, y14, ())).bind fun (r15, _) =>
  (bif (!r15) then (
  some (.inl (data_8, ()))) else (
  some (.inr (.inr (i_7, data_8, ())))))) else (some (.inr (.inr (i_7, data_8, ())))))) fun q => match q with
  | .inl (data_16, _) => (
  some (.inl ((IntKind.i64.wrap (i_7 + ((1) : Int))), data_16, ())))
  | .inr r => some r) n_ (i_4, data_6, ())).bind fun (i_17, data_18, _) =>
  (bif (i_17 == b_3) then (
  some (.inr (.inr (.inr (data_18, true, ()))))) else (
  (bif (decide ((IntKind.i64.wrap (b_3 - a_2)) < ((50) : Int))) then (
  some (.inr (.inr (.inr (data_18, false, ()))))) else (
  (idxN (data_18).length (IntKind.i64.wrap (i_17 - ((1) : Int)))).bind fun k19 =>
  ((atO data_18 k19 fun e20 => some e20)).bind fun y21 =>
  (idxN (data_18).length i_17).bind fun k22 =>
  ((atO data_18 k22 fun e23 => some e23)).bind fun y24 =>
  (idxN (data_18).length i_17).bind fun k25 =>
  ((atO data_18 k25 fun _ => some ((data_18).set k25 y21))).bind fun z27 =>
  (idxN (z27).length (IntKind.i64.wrap (i_17 - ((1) : Int)))).bind fun k28 =>
  ((atO z27 k28 fun _ => some ((z27).set k28 y24))).bind fun z30 =>
  Option.bind (α := ((List Int) × Unit)) (
  (bif (decide ((IntKind.i64.wrap (i_17 - a_2)) ≥ ((2) : Int))) then (
  (loopN (σ := (Int × (List Int) × Unit)) (ρ := ((List Int) × Unit)) (fun (j_31, data_32, _) =>
  (bif (decide (j_31 ≥ ((1) : Int))) then (
  (idxN (data_32).length j_31).bind fun k33 =>
  ((atO data_32 k33 fun e34 => some e34)).bind fun y35 =>
  (idxN (data_32).length (IntKind.i64.wrap (j_31 - ((1) : Int)))).bind fun k36 =>
  ((atO data_32 k36 fun e37 => some e37)).bind fun y38 =>
  (e_cmp_Less_int n_ (y35, y38, ())).bind fun (r39, _) =>
  (bif (!r39) then (
  some (.inr (data_32, ()))) else (
  (idxN (data_32).length (IntKind.i64.wrap (j_31 - ((1) : Int)))).bind fun k40 =>
  ((atO data_32 k40 fun e41 => some e41)).bind fun y42 =>
  (idxN (data_32).length j_31).bind fun k43 =>
  ((atO data_32 k43 fun e44 => some e44)).bind fun y45 =>
  (idxN (data_32).length j_31).bind fun k46 =>
  ((atO data_32 k46 fun _ => some ((data_32).set k46 y42))).bind fun z48 =>
  (idxN (z48).length (IntKind.i64.wrap (j_31 - ((1) : Int)))).bind fun k49 =>
  ((atO z48 k49 fun _ => some ((z48).set k49 y45))).bind fun z51 =>
  some (.inl ((IntKind.i64.wrap (j_31 - ((1) : Int))), z51, ()))))) else (
  some (.inr (data_32, ()))))) n_ ((IntKind.i64.wrap (i_17 - ((1) : Int))), z30, ())).bind fun (data_52, _) =>
  some (data_52, ())) else (
  some (z30, ())))) fun (data_53, _) =>
  (bif (decide ((IntKind.i64.wrap (b_3 - i_17)) ≥ ((2) : Int))) then (
  (loopN (σ := (Int × (List Int) × Unit)) (ρ := ((List Int) × Unit)) (fun (j_54, data_55, _) =>
  (bif (decide (j_54 < b_3)) then (
  (idxN (data_55).length j_54).bind fun k56 =>
  ((atO data_55 k56 fun e57 => some e57)).bind fun y58 =>
  (idxN (data_55).length (IntKind.i64.wrap (j_54 - ((1) : Int)))).bind fun k59 =>
  ((atO data_55 k59 fun e60 => some e60)).bind fun y61 =>
  (e_cmp_Less_int n_ (y58, y61, ())).bind fun (r62, _) =>
  (bif (!r62) then (
  some (.inr (data_55, ()))) else (
  (idxN (data_55).length (IntKind.i64.wrap (j_54 - ((1) : Int)))).bind fun k63 =>
  ((atO data_55 k63 fun e64 => some e64)).bind fun y65 =>
  (idxN (data_55).length j_54).bind fun k66 =>
  ((atO data_55 k66 fun e67 => some e67)).bind fun y68 =>
  (idxN (data_55).length j_54).bind fun k69 =>
  ((atO data_55 k69 fun _ => some ((data_55).set k69 y65))).bind fun z71 =>
  (idxN (z71).length (IntKind.i64.wrap (j_54 - ((1) : Int)))).bind fun k72 =>
  ((atO z71 k72 fun _ => some ((z71).set k72 y68))).bind fun z74 =>
  some (.inl ((IntKind.i64.wrap (j_54 + ((1) : Int))), z74, ()))))) else (
  some (.inr (data_55, ()))))) n_ ((IntKind.i64.wrap (i_17 + ((1) : Int))), data_53, ())).bind fun (data_75, _) =>
  some (.inl (i_17, data_75, ()))) else (
  some (.inl (i_17, data_53, ()))))))))) fun q => match q with
  | .inl (i_76, data_77, _) => (
  some (.inl (i_76, (IntKind.i64.wrap (j_5 + ((1) : Int))), data_77, ())))
  | .inr r => some r) else (
  some (.inr (.inl (data_6, ())))))) n_ ((IntKind.i64.wrap (a_2 + ((1) : Int))), ((0) : Int), data_1, ())).bind fun q => match q with
  | .inl (data_78, _) => (
  some (data_78, false, ()))
  | .inr r => some r
set_option maxHeartbeats 4000000 in
theorem le_slices_partialInsertionSortOrdered_int (n_ : Nat) (a : ((List Int) × Int × Int × Unit)) : Le (e_slices_partialInsertionSortOrdered_int n_ a) (d_slices_partialInsertionSortOrdered_int a) := by
  unfold e_slices_partialInsertionSortOrdered_int d_slices_partialInsertionSortOrdered_int
  repeat' (first | with_reducible exact Le.refl _ | with_reducible exact le_cmp_Less_int _ _ | (with_reducible refine Le.bind ?_ (fun y => ?_)) | (with_reducible refine Le.bif ?_ ?_) | (with_reducible refine Le.loop (fun s => ?_) _ _) | (with_reducible refine Le.atO (fun e => ?_)) | split)
noncomputable def e_slices_partitionEqualOrdered_int (n_ : Nat) : ((List Int) × Int × Int × Int × Unit) → Option ((List Int) × Int × Unit) := fun (data_1, a_2, b_3, pivot_4, _) =>
  (idxN (data_1).length pivot_4).bind fun k5 =>
  ((atO data_1 k5 fun e6 => some e6)).bind fun y7 =>
  (idxN (data_1).length a_2).bind fun k8 =>
  ((atO data_1 k8 fun e9 => some e9)).bind fun y10 =>
  (idxN (data_1).length a_2).bind fun k11 =>
  ((atO data_1 k11 fun _ => some ((data_1).set k11 y7))).bind fun z13 =>
  (idxN (z13).length pivot_4).bind fun k14 =>
  ((atO z13 k14 fun _ => some ((z13).set k14 y10))).bind fun z16 =>
  (loopN (σ := (Int × Int × (List Int) × Unit)) (ρ := (Int × (List Int) × Unit)) (fun (i_17, j_18, data_19, _) =>
  (loopN (σ := (Int × (List Int) × Unit)) (ρ := (Int × (List Int) × Unit)) (fun (i_20, data_21, _) =>
  Option.bind (α := ((List Int) × Unit) ⊕ ((Int × (List Int) × Unit) ⊕ (Int × (List Int) × Unit))) (
  (bif ((decide (i_20 ≤ j_18)) == true) then ((idxN (data_21).length a_2).bind fun k22 =>
  ((atO data_21 k22 fun e23 => some e23)).bind fun y24 =>
  (idxN (data_21).length i_20).bind fun k25 =>
  ((atO data_21 k25 fun e26 => some e26)).bind fun y27 =>
  (e_cmp_Less_int n_ (y24, y27, ())).bind fun (r28, _) =>
  (bif (!r28) then (
  some (.inl (data_21, ()))) else (
  some (.inr (.inr (i_20, data_21, ())))))) else (some (.inr (.inr (i_20, data_21, ())))))) fun q => match q with
  | .inl (data_29, _) => (
  some (.inl ((IntKind.i64.wrap (i_20 + ((1) : Int))), data_29, ())))
  | .inr r => some r) n_ (i_17, data_19, ())).bind fun (i_30, data_31, _) =>
  (loopN (σ := (Int × (List Int) × Unit)) (ρ := (Int × (List Int) × Unit)) (fun (j_32, data_33, _) =>
  Option.bind (α := ((List Int) × Unit) ⊕ ((Int × (List Int) × Unit) ⊕ (Int × (List Int) × Unit))) (
  (bif ((decide (i_30 ≤ j_32)) == true) then ((idxN (data_33).length a_2).bind fun k34 =>
  ((atO data_33 k34 fun e35 => some e35)).bind fun y36 =>
  (idxN (data_33).length j_32).bind fun k37 =>
  ((atO data_33 k37 fun e38 => some e38)).bind fun y39 =>
  (e_cmp_Less_int n_ (y36, y39, ())).bind fun (r40, _) =>
  (bif r40 then (
  some (.inl (data_33, ()))) else (
  some (.inr (.inr (j_32, data_33, ())))))) else (some (.inr (.inr (j_32, data_33, ())))))) fun q => match q with
  | .inl (data_41, _) => (
  some (.inl ((IntKind.i64.wrap (j_32 - ((1) : Int))), data_41, ())))
  | .inr r => some r) n_ (j_18, data_31, ())).bind fun (j_42, data_43, _) =>
  (bif (decide (i_30 > j_42)) then (
  some (.inr (i_30, data_43, ()))) else (
  (idxN (data_43).length j_42).bind fun k44 =>
  ((atO data_43 k44 fun e45 => some e45)).bind fun y46 =>
  (idxN (data_43).length i_30).bind fun k47 =>
  ((atO data_43 k47 fun e48 => some e48)).bind fun y49 =>
  (idxN (data_43).length i_30).bind fun k50 =>
  ((atO data_43 k50 fun _ => some ((data_43).set k50 y46))).bind fun z52 =>
  (idxN (z52).length j_42).bind fun k53 =>
  ((atO z52 k53 fun _ => some ((z52).set k53 y49))).bind fun z55 =>
  some (.inl ((IntKind.i64.wrap (i_30 + ((1) : Int))), (IntKind.i64.wrap (j_42 - ((1) : Int))), z55, ()))))) n_ ((IntKind.i64.wrap (a_2 + ((1) : Int))), (IntKind.i64.wrap (b_3 - ((1) : Int))), z16, ())).bind fun (i_56, data_57, _) =>
  some (data_57, i_56, ())
set_option maxHeartbeats 4000000 in
theorem le_slices_partitionEqualOrdered_int (n_ : Nat) (a : ((List Int) × Int × Int × Int × Unit)) : Le (e_slices_partitionEqualOrdered_int n_ a) (d_slices_partitionEqualOrdered_int a) := by
  unfold e_slices_partitionEqualOrdered_int d_slices_partitionEqualOrdered_int
  repeat' (first | with_reducible exact Le.refl _ | with_reducible exact le_cmp_Less_int _ _ | (with_reducible refine Le.bind ?_ (fun y => ?_)) | (with_reducible refine Le.bif ?_ ?_) | (with_reducible refine Le.loop (fun s => ?_) _ _) | (with_reducible refine Le.atO (fun e => ?_)) | split)
noncomputable def e_slices_partitionOrdered_int (n_ : Nat) : ((List Int) × Int × Int × Int × Unit) → Option ((List Int) × Int × Bool × Unit) := fun (data_1, a_2, b_3, pivot_4, _) =>
  (idxN (data_1).length pivot_4).bind fun k5 =>
  ((atO data_1 k5 fun e6 => some e6)).bind fun y7 =>
  (idxN (data_1).length a_2).bind fun k8 =>
  ((atO data_1 k8 fun e9 => some e9)).bind fun y10 =>
  (idxN (data_1).length a_2).bind fun k11 =>
  ((atO data_1 k11 fun _ => some ((data_1).set k11 y7))).bind fun z13 =>
  (idxN (z13).length pivot_4).bind fun k14 =>
  ((atO z13 k14 fun _ => some ((z13).set k14 y10))).bind fun z16 =>
  (loopN (σ := (Int × (List Int) × Unit)) (ρ := (Int × (List Int) × Unit)) (fun (i_17, data_18, _) =>
  Option.bind (α := ((List Int) × Unit) ⊕ ((Int × (List Int) × Unit) ⊕ (Int × (List Int) × Unit))) (
  (bif ((decide (i_17 ≤ (IntKind.i64.wrap (b_3 - ((1) : Int))))) == true) then ((idxN (data_18).length i_17).bind fun k19 =>
  ((atO data_18 k19 fun e20 => some e20)).bind fun y21 =>
  (idxN (data_18).length a_2).bind fun k22 =>
  ((atO data_18 k22 fun e23 => some e23)).bind fun y24 =>
  (e_cmp_Less_int n_ (y21, y24, ())).bind fun (r25, _) =>
  (bif r25 then (
  some (.inl (data_18, ()))) else (
  some (.inr (.inr (i_17, data_18, ())))))) else (some (.inr (.inr (i_17, data_18, ())))))) fun q => match q with
  | .inl (data_26, _) => (
  some (.inl ((IntKind.i64.wrap (i_17 + ((1) : Int))), data_26, ())))
  | .inr r => some r) n_ ((IntKind.i64.wrap (a_2 + ((1) : Int))), z16, ())).bind fun (i_27, data_28, _) =>
  (loopN (σ := (Int × (List Int) × Unit)) (ρ := (Int × (List Int) × Unit)) (fun (j_29, data_30, _) =>
  Option.bind (α := ((List Int) × Unit) ⊕ ((Int × (List Int) × Unit) ⊕ (Int × (List Int) × Unit))) (
  (bif ((decide (i_27 ≤ j_29)) == true) then ((idxN (data_30).length j_29).bind fun k31 =>
  ((atO data_30 k31 fun e32 => some e32)).bind fun y33 =>
  (idxN (data_30).length a_2).bind fun k34 =>
  ((atO data_30 k34 fun e35 => some e35)).bind fun y36 =>
  (e_cmp_Less_int n_ (y33, y36, ())).bind fun (r37, _) =>
  (bif (!r37) then (
  some (.inl (data_30, ()))) else (
  some (.inr (.inr (j_29, data_30, ())))))) else (some (.inr (.inr (j_29, data_30, ())))))) fun q => match q with
  | .inl (data_38, _) => (
  some (.inl ((IntKind.i64.wrap (j_29 - ((1) : Int))), data_38, ())))
  | .inr r => some r) n_ ((IntKind.i64.wrap (b_3 - ((1) : Int))), data_28, ())).bind fun (j_39, data_40, _) =>
  (bif (decide (i_27 > j_39)) then (
  (idxN (data_40).length a_2).bind fun k41 =>
  ((atO data_40 k41 fun e42 => some e42)).bind fun y43 =>
  (idxN (data_40).length j_39).bind fun k44 =>
  ((atO data_40 k44 fun e45 => some e45)).bind fun y46 =>
  (idxN (data_40).length j_39).bind fun k47 =>
  ((atO data_40 k47 fun _ => some ((data_40).set k47 y43))).bind fun z49 =>
  (idxN (z49).length a_2).bind fun k50 =>
  ((atO z49 k50 fun _ => some ((z49).set k50 y46))).bind fun z52 =>
  some (z52, j_39, true, ())) else (
  (idxN (data_40).length j_39).bind fun k53 =>
  ((atO data_40 k53 fun e54 => some e54)).bind fun y55 =>
  (idxN (data_40).length i_27).bind fun k56 =>
  ((atO data_40 k56 fun e57 => some e57)).bind fun y58 =>
  (idxN (data_40).length i_27).bind fun k59 =>
  ((atO data_40 k59 fun _ => some ((data_40).set k59 y55))).bind fun z61 =>
  (idxN (z61).length j_39).bind fun k62 =>
  ((atO z61 k62 fun _ => some ((z61).set k62 y58))).bind fun z64 =>
  (loopN (σ := (Int × Int × (List Int) × Unit)) (ρ := (Int × (List Int) × Unit)) (fun (i_65, j_66, data_67, _) =>
  (loopN (σ := (Int × (List Int) × Unit)) (ρ := (Int × (List Int) × Unit)) (fun (i_68, data_69, _) =>
  Option.bind (α := ((List Int) × Unit) ⊕ ((Int × (List Int) × Unit) ⊕ (Int × (List Int) × Unit))) (
  (bif ((decide (i_68 ≤ j_66)) == true) then ((idxN (data_69).length i_68).bind fun k70 =>
  ((atO data_69 k70 fun e71 => some e71)).bind fun y72 =>
  (idxN (data_69).length a_2).bind fun k73 =>
  ((atO data_69 k73 fun e74 => some e74)).bind fun y75 =>
  (e_cmp_Less_int n_ (y72, y75, ())).bind fun (r76, _) =>
  (bif r76 then (
  some (.inl (data_69, ()))) else (
  some (.inr (.inr (i_68, data_69, ())))))) else (some (.inr (.inr (i_68, data_69, ())))))) fun q => match q with
  | .inl (data_77, _) => (
  some (.inl ((IntKind.i64.wrap (i_68 + ((1) : Int))), data_77, ())))
  | .inr r => some r) n_ (i_65, data_67, ())).bind fun (i_78, data_79, _) =>
  (loopN (σ := (Int × (List Int) × Unit)) (ρ := (Int × (List Int) × Unit)) (fun (j_80, data_81, _) =>
  Option.bind (α := ((List Int) × Unit) ⊕ ((Int × (List Int) × Unit) ⊕ (Int × (List Int) × Unit))) (
  (bif ((decide (i_78 ≤ j_80)) == true) then ((idxN (data_81).length j_80).bind fun k82 =>
  ((atO data_81 k82 fun e83 => some e83)).bind fun y84 =>
  (idxN (data_81).length a_2).bind fun k85 =>
  ((atO data_81 k85 fun e86 => some e86)).bind fun y87 =>
  (e_cmp_Less_int n_ (y84, y87, ())).bind fun (r88, _) =>
  (bif (!r88) then (
  some (.inl (data_81, ()))) else (
  some (.inr (.inr (j_80, data_81, ())))))) else (some (.inr (.inr (j_80, data_81, ())))))) fun q => match q with
  | .inl (data_89, _) => (
  some (.inl ((IntKind.i64.wrap (j_80 - ((1) : Int))), data_89, ())))
  | .inr r => some r) n_ (j_66, data_79, ())).bind fun (j_90, data_91, _) =>
  (bif (decide (i_78 > j_90)) then (
  some (.inr (j_90, data_91, ()))) else (
  (idxN (data_91).length j_90).bind fun k92 =>
  ((atO data_91 k92 fun e93 => some e93)).bind fun y94 =>
  (idxN (data_91).length i_78).bind fun k95 =>
  ((atO data_91 k95 fun e96 => some e96)).bind fun y97 =>
  (idxN (data_91).length i_78).bind fun k98 =>
  ((atO data_91 k98 fun _ => some ((data_91).set k98 y94))).bind fun z100 =>
  (idxN (z100).length j_90).bind fun k101 =>
  ((atO z100 k101 fun _ => some ((z100).set k101 y97))).bind fun z103 =>
  some (.inl ((IntKind.i64.wrap (i_78 + ((1) : Int))), (IntKind.i64.wrap (j_90 - ((1) : Int))), z103, ()))))) n_ ((IntKind.i64.wrap (i_27 + ((1) : Int))), (IntKind.i64.wrap (j_39 - ((1) : Int))), z64, ())).bind fun (j_104, data_105, _) =>
  (idxN (data_105).length a_2).bind fun k106 =>
  ((atO data_105 k106 fun e107 => some e107)).bind fun y108 =>
  (idxN (data_105).length j_104).bind fun k109 =>
  ((atO data_105 k109 fun e110 => some e110)).bind fun y111 =>
  (idxN (data_105).length j_104).bind fun k112 =>
  ((atO data_105 k112 fun _ => some ((data_105).set k112 y108))).bind fun z114 =>
  (idxN (z114).length a_2).bind fun k115 =>
  ((atO z114 k115 fun _ => some ((z114).set k115 y111))).bind fun z117 =>
  some (z117, j_104, false, ())))
set_option maxHeartbeats 4000000 in
theorem le_slices_partitionOrdered_int (n_ : Nat) (a : ((List Int) × Int × Int × Int × Unit)) : Le (e_slices_partitionOrdered_int n_ a) (d_slices_partitionOrdered_int a) := by
  unfold e_slices_partitionOrdered_int d_slices_partitionOrdered_int
  repeat' (first | with_reducible exact Le.refl _ | with_reducible exact le_cmp_Less_int _ _ | (with_reducible refine Le.bind ?_ (fun y => ?_)) | (with_reducible refine Le.bif ?_ ?_) | (with_reducible refine Le.loop (fun s => ?_) _ _) | (with_reducible refine Le.atO (fun e => ?_)) | split)
noncomputable def e_slices_pdqsortOrdered_intq_s (n_ : Nat) (f_ : ((List Int) × Int × Int × Int × Unit) → Option ((List Int) × Unit)) : ((List Int) × Int × Int × Int × Unit) → Option ((List Int) × Unit) := fun (data_1, a_2, b_3, limit_4, _) =>
  (loopN (σ := (Int × Int × Int × Bool × Bool × (List Int) × Unit)) (ρ := ((List Int) × Unit)) (fun (a_5, b_6, limit_7, wasBalanced_8, wasPartitioned_9, data_10, _) =>
  (bif (decide ((IntKind.i64.wrap (b_6 - a_5)) ≤ ((12) : Int))) then (
  (e_slices_insertionSortOrdered_int n_ (data_10, a_5, b_6, ())).bind fun (m11, _) =>
  some (.inr (m11, ()))) else (
  (bif (limit_7 == ((0) : Int)) then (
  (e_slices_heapSortOrdered_int n_ (data_10, a_5, b_6, ())).bind fun (m12, _) =>
  some (.inr (m12, ()))) else (
  Option.bind (α := (Int × (List Int) × Unit)) (
  (bif (!wasBalanced_8) then (
  (e_slices_breakPatternsOrdered_int n_ (data_10, a_5, b_6, ())).bind fun (m13, _) =>
  some ((IntKind.i64.wrap (limit_7 - ((1) : Int))), m13, ())) else (
  some (limit_7, data_10, ())))) fun (limit_14, data_15, _) =>
  (e_slices_choosePivotOrdered_int n_ (data_15, a_5, b_6, ())).bind fun (r16, r17, _) =>
  Option.bind (α := (Int × Int × (List Int) × Unit)) (
  (bif (r17 == ((2) : Int)) then (
  (e_slices_reverseRangeOrdered_int n_ (data_15, a_5, b_6, ())).bind fun (m18, _) =>
  some ((IntKind.i64.wrap ((IntKind.i64.wrap (b_6 - ((1) : Int))) - (IntKind.i64.wrap (r16 - a_5)))), ((1) : Int), m18, ())) else (
  some (r16, r17, data_15, ())))) fun (pivot_19, hint_20, data_21, _) =>
  Option.bind (α := ((List Int) × Unit) ⊕ ((Int × Int × Int × Bool × Bool × (List Int) × Unit) ⊕ ((List Int) × Unit))) (
  Option.bind (α := (Bool × (List Int) × Unit)) (
  (bif (wasBalanced_8 == true) then ((bif (wasPartitioned_9 == true) then (some ((hint_20 == ((1) : Int)), data_21, ())) else (some (false, data_21, ())))) else (some (false, data_21, ())))) fun (s_22, data_23, _) =>
  (bif s_22 then (
  (e_slices_partialInsertionSortOrdered_int n_ (data_23, a_5, b_6, ())).bind fun (m24, r25, _) =>
  (bif r25 then (
  some (.inr (.inr (m24, ())))) else (
  some (.inl (m24, ()))))) else (
  some (.inl (data_23, ()))))) fun q => match q with
  | .inl (data_26, _) => (
  Option.bind (α := (Int × (List Int) × Unit) ⊕ ((Int × Int × Int × Bool × Bool × (List Int) × Unit) ⊕ ((List Int) × Unit))) (
  Option.bind (α := (Bool × (List Int) × Unit)) (
  (bif ((decide (a_5 > ((0) : Int))) == true) then ((idxN (data_26).length (IntKind.i64.wrap (a_5 - ((1) : Int)))).bind fun k27 =>
  ((atO data_26 k27 fun e28 => some e28)).bind fun y29 =>
  (idxN (data_26).length pivot_19).bind fun k30 =>
  ((atO data_26 k30 fun e31 => some e31)).bind fun y32 =>
  (e_cmp_Less_int n_ (y29, y32, ())).bind fun (r33, _) =>
  some ((!r33), data_26, ())) else (some (false, data_26, ())))) fun (s_34, data_35, _) =>
  (bif s_34 then (
  (e_slices_partitionEqualOrdered_int n_ (data_35, a_5, b_6, pivot_19, ())).bind fun (m36, r37, _) =>
  some (.inr (.inl (r37, b_6, limit_14, wasBalanced_8, wasPartitioned_9, m36, ())))) else (
  some (.inl (a_5, data_35, ()))))) fun q => match q with
  | .inl (a_38, data_39, _) => (
  (e_slices_partitionOrdered_int n_ (data_39, a_38, b_6, pivot_19, ())).bind fun (m40, r41, r42, _) =>
  (quoO IntKind.i64 (IntKind.i64.wrap (b_6 - a_5)) ((8) : Int)).bind fun y43 =>
  (bif (decide ((IntKind.i64.wrap (r41 - a_38)) < (IntKind.i64.wrap (b_6 - r41)))) then (
  (f_ (m40, a_38, r41, limit_14, ())).bind fun (m44, _) =>
  some (.inl ((IntKind.i64.wrap (r41 + ((1) : Int))), b_6, limit_14, (decide ((IntKind.i64.wrap (r41 - a_38)) ≥ y43)), r42, m44, ()))) else (
  (f_ (m40, (IntKind.i64.wrap (r41 + ((1) : Int))), b_6, limit_14, ())).bind fun (m45, _) =>
  some (.inl (a_38, r41, limit_14, (decide ((IntKind.i64.wrap (b_6 - r41)) ≥ y43)), r42, m45, ())))))
  | .inr r => some r)
  | .inr r => some r))))) n_ (a_2, b_3, limit_4, true, true, data_1, ())).bind some
set_option maxHeartbeats 4000000 in
theorem le_slices_pdqsortOrdered_intq_s (n_ : Nat) (f_ fb_ : ((List Int) × Int × Int × Int × Unit) → Option ((List Int) × Unit)) (h_ : ∀ a, Le (f_ a) (fb_ a)) (a : ((List Int) × Int × Int × Int × Unit)) : Le (e_slices_pdqsortOrdered_intq_s n_ f_ a) (r_slices_pdqsortOrdered_intq_s fb_ a) := by
  unfold e_slices_pdqsortOrdered_intq_s r_slices_pdqsortOrdered_intq_s
  repeat' (first | with_reducible exact Le.refl _ | with_reducible exact le_cmp_Less_int _ _ | with_reducible exact le_slices_insertionSortOrdered_int _ _ | with_reducible exact le_slices_heapSortOrdered_int _ _ | with_reducible exact le_slices_breakPatternsOrdered_int _ _ | with_reducible exact le_slices_choosePivotOrdered_int _ _ | with_reducible exact le_slices_reverseRangeOrdered_int _ _ | with_reducible exact le_slices_partialInsertionSortOrdered_int _ _ | with_reducible exact le_slices_partitionEqualOrdered_int _ _ | with_reducible exact le_slices_partitionOrdered_int _ _ | with_reducible exact h_ _ | (with_reducible refine Le.bind ?_ (fun y => ?_)) | (with_reducible refine Le.bif ?_ ?_) | (with_reducible refine Le.loop (fun s => ?_) _ _) | (with_reducible refine Le.atO (fun e => ?_)) | split)
noncomputable def e_slices_pdqsortOrdered_int (n_ : Nat) : ((List Int) × Int × Int × Int × Unit) → Option ((List Int) × Unit) := deep (e_slices_pdqsortOrdered_intq_s n_) n_
theorem le_slices_pdqsortOrdered_int (n_ : Nat) (a : ((List Int) × Int × Int × Int × Unit)) : Le (e_slices_pdqsortOrdered_int n_ a) (d_slices_pdqsortOrdered_int a) := Le.deep (le_slices_pdqsortOrdered_intq_s n_) r_slices_pdqsortOrdered_intq_mono n_ a
noncomputable def e_slices_Sort_int_int (n_ : Nat) : ((List Int) × Unit) → Option ((List Int) × Unit) := fun (x_1, _) =>
  (e_math_bits_Len n_ ((IntKind.u64.wrap (((x_1).length : Nat) : Int)), ())).bind fun (r2, _) =>
  (e_slices_pdqsortOrdered_int n_ (x_1, ((0) : Int), (((x_1).length : Nat) : Int), r2, ())).bind fun (m3, _) =>
  some (m3, ())
set_option maxHeartbeats 4000000 in
theorem le_slices_Sort_int_int (n_ : Nat) (a : ((List Int) × Unit)) : Le (e_slices_Sort_int_int n_ a) (d_slices_Sort_int_int a) := by
  unfold e_slices_Sort_int_int d_slices_Sort_int_int
  repeat' (first | with_reducible exact Le.refl _ | with_reducible exact le_slices_pdqsortOrdered_int _ _ | with_reducible exact le_math_bits_Len _ _ | (with_reducible refine Le.bind ?_ (fun y => ?_)) | (with_reducible refine Le.bif ?_ ?_) | (with_reducible refine Le.loop (fun s => ?_) _ _) | (with_reducible refine Le.atO (fun e => ?_)) | split)
noncomputable def e_graph_twice (n_ : Nat) : List Int × Unit → Option (Bool × Unit) := fun a => (twSem (fun l => (e_slices_Sort_int_int n_ (l, ())).map fun r => r.1) a.1).map fun b => (b, ())
theorem le_graph_twice (n_ : Nat) (a : List Int × Unit) : Le (e_graph_twice n_ a) (d_graph_twice a) := twSem_le (fun l => le_slices_Sort_int_int n_ (l, ())) a
noncomputable def e_graph_Permuted_1q_q0 (n_ : Nat) : (Int × (Option ((List (List Int)) × Unit)) × Unit) → Option (Bool × Unit) := fun (v_1, p_2, _) =>
  (p_2).bind fun y3 =>
  (e_graph_vertex n_ (y3, v_1, ())).bind fun (r4, _) =>
  some ((!r4), ())
set_option maxHeartbeats 4000000 in
theorem le_graph_Permuted_1q_q0 (n_ : Nat) (a : (Int × (Option ((List (List Int)) × Unit)) × Unit)) : Le (e_graph_Permuted_1q_q0 n_ a) (d_graph_Permuted_1q_q0 a) := by
  unfold e_graph_Permuted_1q_q0 d_graph_Permuted_1q_q0
  repeat' (first | with_reducible exact Le.refl _ | with_reducible exact le_graph_vertex _ _ | (with_reducible refine Le.bind ?_ (fun y => ?_)) | (with_reducible refine Le.bif ?_ ?_) | (with_reducible refine Le.loop (fun s => ?_) _ _) | (with_reducible refine Le.atO (fun e => ?_)) | split)
noncomputable def e_slices_IndexFunc_int_int_q0 (n_ : Nat) : ((List Int) × ((Option ((List (List Int)) × Unit)) × Unit) × Unit) → Option (Int × Unit) := fun (s_1, f_2, _) =>
  (loopN (σ := (Int × Unit)) (ρ := (Unit ⊕ (Int × Unit))) (fun (s_3, _) =>
  (bif (decide (s_3 < (((s_1).length : Nat) : Int))) then (
  (getI s_1 s_3).bind fun y4 =>
  (e_graph_Permuted_1q_q0 n_ (y4, f_2.1, ())).bind fun (r5, _) =>
  (bif r5 then (
  some (.inr (.inr (s_3, ())))) else (
  some (.inl ((IntKind.i64.wrap (s_3 + ((1) : Int))), ()))))) else (
  some (.inr (.inl ()))))) n_ (((0) : Int), ())).bind fun q => match q with
  | .inl _ => (
  some ((-1 : Int), ()))
  | .inr r => some r
set_option maxHeartbeats 4000000 in
theorem le_slices_IndexFunc_int_int_q0 (n_ : Nat) (a : ((List Int) × ((Option ((List (List Int)) × Unit)) × Unit) × Unit)) : Le (e_slices_IndexFunc_int_int_q0 n_ a) (d_slices_IndexFunc_int_int_q0 a) := by
  unfold e_slices_IndexFunc_int_int_q0 d_slices_IndexFunc_int_int_q0
  repeat' (first | with_reducible exact Le.refl _ | with_reducible exact le_graph_Permuted_1q_q0 _ _ | (with_reducible refine Le.bind ?_ (fun y => ?_)) | (with_reducible refine Le.bif ?_ ?_) | (with_reducible refine Le.loop (fun s => ?_) _ _) | (with_reducible refine Le.atO (fun e => ?_)) | split)
noncomputable def e_slices_ContainsFunc_int_int_q0 (n_ : Nat) : ((List Int) × ((Option ((List (List Int)) × Unit)) × Unit) × Unit) → Option (Bool × Unit) := fun (s_1, f_2, _) =>
  (e_slices_IndexFunc_int_int_q0 n_ (s_1, (f_2.1, ()), ())).bind fun (r3, _) =>
  some ((decide (r3 ≥ ((0) : Int))), ())
set_option maxHeartbeats 4000000 in
theorem le_slices_ContainsFunc_int_int_q0 (n_ : Nat) (a : ((List Int) × ((Option ((List (List Int)) × Unit)) × Unit) × Unit)) : Le (e_slices_ContainsFunc_int_int_q0 n_ a) (d_slices_ContainsFunc_int_int_q0 a) := by
  unfold e_slices_ContainsFunc_int_int_q0 d_slices_ContainsFunc_int_int_q0
  repeat' (first | with_reducible exact Le.refl _ | with_reducible exact le_slices_IndexFunc_int_int_q0 _ _ | (with_reducible refine Le.bind ?_ (fun y => ?_)) | (with_reducible refine Le.bif ?_ ?_) | (with_reducible refine Le.loop (fun s => ?_) _ _) | (with_reducible refine Le.atO (fun e => ?_)) | split)
noncomputable def e_graph_Permuted (n_ : Nat) : (((List (List Int)) × Unit) × (List Int) × Unit) → Option (Int × Unit) := fun (g_1, order_2, _) =>
  (e_graph_Check n_ (g_1, ())).bind fun (r3, _) =>
  (bif (r3 != ((0) : Int)) then (
  some (r3, ())) else (
  (bif ((((order_2).length : Nat) : Int) != (((g_1.1).length : Nat) : Int)) then (
  some (((2) : Int), ())) else (
  (e_slices_ContainsFunc_int_int_q0 n_ (order_2, ((some g_1), ()), ())).bind fun (r4, _) =>
  (bif (r4 == false) then ((e_graph_twice n_ (order_2, ())).bind fun (r5, _) =>
  (bif r5 then (
  some (((90) : Int), ())) else (
  some (((0) : Int), ())))) else (some (((90) : Int), ())))))))
set_option maxHeartbeats 4000000 in
theorem le_graph_Permuted (n_ : Nat) (a : (((List (List Int)) × Unit) × (List Int) × Unit)) : Le (e_graph_Permuted n_ a) (d_graph_Permuted a) := by
  unfold e_graph_Permuted d_graph_Permuted
  repeat' (first | with_reducible exact Le.refl _ | with_reducible exact le_slices_ContainsFunc_int_int_q0 _ _ | with_reducible exact le_graph_Check _ _ | with_reducible exact le_graph_twice _ _ | (with_reducible refine Le.bind ?_ (fun y => ?_)) | (with_reducible refine Le.bif ?_ ?_) | (with_reducible refine Le.loop (fun s => ?_) _ _) | (with_reducible refine Le.atO (fun e => ?_)) | split)
noncomputable def e_mindeg_Degrees (n_ : Nat) : (((List (List Int)) × Unit) × (List Int) × Unit) → Option ((List Int) × Int × Unit) := fun (g_1, order_2, _) =>
  (e_graph_Permuted n_ (g_1, order_2, ())).bind fun (r14, _) =>
  (bif (r14 != ((0) : Int)) then (
  some ([], r14, ())) else (
  (e_mindeg_Start n_ (g_1, ())).bind fun (r15, _) =>
  (loopN (σ := (Int × ((List (List Bool)) × ((List Bool) × Unit)) × (List Int) × Unit)) (ρ := ((List Int) × Unit)) (fun (s_16, x_17, out_18, _) =>
  (bif (decide (s_16 < (((order_2).length : Nat) : Int))) then (
  (getI order_2 s_16).bind fun y19 =>
  (e_mindeg_Elimination_Eliminate n_ (x_17, y19, ())).bind fun (m20, r21, _) =>
  (limO ((out_18).length + ([(((r21).length : Nat) : Int)]).length)).bind fun _ =>
  some (.inl ((IntKind.i64.wrap (s_16 + ((1) : Int))), m20, (out_18 ++ [(((r21).length : Nat) : Int)]), ()))) else (
  some (.inr (out_18, ()))))) n_ (((0) : Int), r15, [], ())).bind fun (out_22, _) =>
  some (out_22, ((0) : Int), ())))
set_option maxHeartbeats 4000000 in
theorem le_mindeg_Degrees (n_ : Nat) (a : (((List (List Int)) × Unit) × (List Int) × Unit)) : Le (e_mindeg_Degrees n_ a) (d_mindeg_Degrees a) := by
  unfold e_mindeg_Degrees d_mindeg_Degrees
  repeat' (first | with_reducible exact Le.refl _ | with_reducible exact le_mindeg_Start _ _ | with_reducible exact le_mindeg_Elimination_Eliminate _ _ | with_reducible exact le_graph_Permuted _ _ | (with_reducible refine Le.bind ?_ (fun y => ?_)) | (with_reducible refine Le.bif ?_ ?_) | (with_reducible refine Le.loop (fun s => ?_) _ _) | (with_reducible refine Le.atO (fun e => ?_)) | split)
noncomputable def e_sparselaw16q_awake (n_ : Nat) : Unit → Option (Bool × Unit) := fun _ =>
  (e_mindeg_Exact n_ (([[((1) : Int), ((2) : Int), ((3) : Int)], [((0) : Int)], [((0) : Int)], [((0) : Int)]], ()), ())).bind fun (r1, r2, _) =>
  (e_mindeg_Degrees n_ (([[((1) : Int), ((2) : Int), ((3) : Int)], [((0) : Int)], [((0) : Int)], [((0) : Int)]], ()), [((0) : Int), ((1) : Int), ((2) : Int), ((3) : Int)], ())).bind fun (r3, r4, _) =>
  (bif ((r2 == ((0) : Int)) == true) then ((bif ((r4 == ((0) : Int)) == true) then ((e_sparsekit_Ints n_ (r1, [((1) : Int), ((2) : Int), ((0) : Int), ((3) : Int)], ())).bind fun (r5, _) =>
  (bif (r5 == true) then ((e_sparsekit_Ints n_ (r3, [((3) : Int), ((2) : Int), ((1) : Int), ((0) : Int)], ())).bind fun (r6, _) =>
  some (r6, ())) else (some (false, ())))) else (some (false, ())))) else (some (false, ())))
set_option maxHeartbeats 4000000 in
theorem le_sparselaw16q_awake (n_ : Nat) (a : Unit) : Le (e_sparselaw16q_awake n_ a) (d_sparselaw16q_awake a) := by
  unfold e_sparselaw16q_awake d_sparselaw16q_awake
  repeat' (first | with_reducible exact Le.refl _ | with_reducible exact le_mindeg_Exact _ _ | with_reducible exact le_mindeg_Degrees _ _ | with_reducible exact le_sparsekit_Ints _ _ | (with_reducible refine Le.bind ?_ (fun y => ?_)) | (with_reducible refine Le.bif ?_ ?_) | (with_reducible refine Le.loop (fun s => ?_) _ _) | (with_reducible refine Le.atO (fun e => ?_)) | split)
end Go.Fw
theorem Go.Fw.awake16 : Go.Fw.d_sparselaw16q_awake () = some (true, ()) := Go.Fw.le_sparselaw16q_awake 20 () _ (by decide +kernel)
end

section
namespace Go.Fw
set_option linter.unusedSimpArgs false
set_option linter.unusedVariables false
open Go
section
variable {adj : List (List Int)}
theorem nbr_dg {S : Nat → Prop} {T : List (List Bool)} {gone : List Bool} (hE : Elim adj S T gone) {v : Nat} (hv : v < adj.length) (hS : ¬ S v) : nbrV T gone v adj.length = natL ((List.range adj.length).filter (bT adj S v)) := by
  refine sorted_ext (nbrV_asc ..) (sorted_filter _ _) fun x => ?_
  constructor
  · intro hx
    obtain ⟨w, rfl, hw⟩ := nbrV_rng hx
    obtain ⟨h1, h2, h3, h4⟩ := (mem_nbrV hE hv hS).1 hx
    exact mem_natL.2 (List.mem_filter.2 ⟨List.mem_range.2 h1, bT_iff.2 ⟨h3, hS, h2, h4⟩⟩)
  · intro hx
    obtain ⟨w, hw, rfl⟩ := List.mem_map.1 hx
    obtain ⟨h1, h2⟩ := List.mem_filter.1 hw
    obtain ⟨b1, b2, b3, b4⟩ := bT_iff.1 h2
    exact (mem_nbrV hE hv hS).2 ⟨List.mem_range.1 h1, b3, b1, b4⟩
variable (hV : Valid adj) (hn : adj.length ≤ 200)
include hV hn
end
end Go.Fw
end

section
namespace Go.Fw
set_option linter.unusedSimpArgs false
set_option linter.unusedVariables false
open Go
section
variable {adj : List (List Int)} (hV : Valid adj) {o : List Int} (hp : IsPerm o adj.length)
include hV hp
noncomputable def loN (adj : List (List Int)) (o : List Int) (k : Nat) : Nat := nB adj.length (fun i => decide (k < i) && nbB adj (ordN o k) (ordN o i))
theorem edges_two (hn : adj.length ≤ 200) (hpm : o.Perm (natL (List.range adj.length))) : ((List.range adj.length).map fun v => (adj.getD v []).length).sum = 2 * ((List.range adj.length).map fun k => loN adj o k).sum := by
  have hrow : ∀ v, v < adj.length → (adj.getD v []).length = nB adj.length (nbB adj v) := fun v hv => by
    rw [getD_lt hv]
    have hr := (Valid_iff adj).1 hV v hv
    have : adj[v] = natL ((List.range adj.length).filter (nbB adj v)) := by
      refine sorted_ext hr.1 (sorted_filter _ _) (fun x => ?_)
      constructor
      · intro hx
        obtain ⟨m, hm, rfl⟩ := List.mem_iff_getElem.1 hx
        have h1 := hr.2 m hm
        refine List.mem_map.2 ⟨adj[v][m].toNat, List.mem_filter.2 ⟨List.mem_range.2 (by omega), ?_⟩, by omega⟩
        rw [nbB_iff]
        exact ⟨hv, by rw [Int.toNat_of_nonneg h1.1.1]; exact List.getElem_mem hm⟩
      · intro hx
        obtain ⟨y, hy, rfl⟩ := List.mem_map.1 hx
        obtain ⟨_, h2⟩ := nbB_iff.1 (List.mem_filter.1 hy).2
        exact h2
    rw [this, natL_length]; rfl
  have e1 : ((List.range adj.length).map fun v => (adj.getD v []).length).sum = ((List.range adj.length).map fun k => nB adj.length (fun i => nbB adj (ordN o k) (ordN o i))).sum := by
    rw [List.map_congr_left fun v hv => hrow v (List.mem_range.1 hv), sum_perm hpm]
    exact congrArg _ (List.map_congr_left fun k _ => nB_perm hpm _)
  have hsym : ∀ k i, nbB adj (ordN o k) (ordN o i) = nbB adj (ordN o i) (ordN o k) := fun k i => nbB_symm hV _ _
  have hsplit : ∀ k, k < adj.length → nB adj.length (fun i => nbB adj (ordN o k) (ordN o i)) = nB adj.length (fun i => decide (k < i) && nbB adj (ordN o k) (ordN o i)) + nB adj.length (fun i => decide (i < k) && nbB adj (ordN o k) (ordN o i)) := fun k hk => by
    rw [← nB_or]
    · refine nB_congr fun i hi => ?_
      by_cases h1 : k < i
      · simp [h1]
      · by_cases h2 : i < k
        · simp [h2]
        · obtain rfl : i = k := by omega
          have : nbB adj (ordN o i) (ordN o i) = false := by rw [Bool.eq_false_iff]; exact fun h => Nb.ne hV (nbB_iff.1 h) rfl
          simp [this]
    · intro i _ h
      simp only [Bool.and_eq_true, decide_eq_true_eq] at h
      rw [decF (show ¬ i < k by omega)]; rfl
  have hswap : ((List.range adj.length).map fun k => nB adj.length (fun i => decide (i < k) && nbB adj (ordN o k) (ordN o i))).sum = ((List.range adj.length).map fun k => nB adj.length (fun i => decide (k < i) && nbB adj (ordN o k) (ordN o i))).sum := by
    rw [sum_swap (fun k i => decide (i < k) && nbB adj (ordN o k) (ordN o i))]
    refine congrArg _ (List.map_congr_left fun i _ => nB_congr fun j _ => ?_)
    rw [hsym]
  have e2 : ((List.range adj.length).map fun k => nB adj.length (fun i => nbB adj (ordN o k) (ordN o i))).sum = ((List.range adj.length).map fun k => nB adj.length (fun i => decide (k < i) && nbB adj (ordN o k) (ordN o i))).sum + ((List.range adj.length).map fun k => nB adj.length (fun i => decide (k < i) && nbB adj (ordN o k) (ordN o i))).sum := by
    rw [← hswap, hswap, ← sum_addq]
    conv => rhs; rw [sum_addq]
    conv => rhs; rhs; rw [← hswap]
    rw [← sum_addq]
    exact congrArg _ (List.map_congr_left fun k hk => hsplit k (List.mem_range.1 hk))
  rw [e1, e2]
  exact (Nat.two_mul _).symm
end
theorem sum_eq_iff {l : List Nat} {f g : Nat → Nat} (h : ∀ x ∈ l, f x ≤ g x) : (l.map f).sum = (l.map g).sum ↔ ∀ x ∈ l, f x = g x := by
  induction l with
  | nil => simp
  | cons a l ih =>
    have h1 := h a (List.mem_cons_self ..)
    have hl := fun x hx => h x (List.mem_cons_of_mem a hx)
    have h2 := sum_le hl
    simp only [List.map_cons, List.sum_cons]
    constructor
    · intro e x hx
      rcases List.mem_cons.1 hx with rfl | hx
      · omega
      · exact (ih hl).1 (by omega) x hx
    · intro e
      rw [(ih hl).2 fun x hx => e x (List.mem_cons_of_mem _ hx), e a (List.mem_cons_self ..)]
theorem nB_eq_iff {n : Nat} {p q : Nat → Bool} (h : ∀ i, i < n → p i = true → q i = true) : nB n p = nB n q ↔ ∀ i, i < n → q i = true → p i = true := by
  constructor
  · intro e i hi hq
    cases hp : p i with
    | true => rfl
    | false =>
      have h1 := nB_or (n := n) (p := p) (q := fun j => decide (j = i)) fun j hj hpj => decide_eq_false fun e2 => by subst e2; rw [hp] at hpj; cases hpj
      have h2 := nB_mono (n := n) (p := fun j => p j || decide (j = i)) (q := q) fun j hj h3 => by
        rw [Bool.or_eq_true, decide_eq_true_eq] at h3
        rcases h3 with h3 | rfl
        · exact h j hj h3
        · exact hq
      rw [nB_one hi] at h1
      omega
  · intro h2
    exact nB_congr fun i hi => Bool.eq_iff_iff.2 ⟨h i hi, h2 i hi⟩
section
variable {adj : List (List Int)} (hV : Valid adj) {o : List Int} (hpm : o.Perm (natL (List.range adj.length)))
include hV hpm
theorem dg_lo {k : Nat} (hk : k < adj.length) : (∀ i, i < adj.length → (decide (k < i) && nbB adj (ordN o k) (ordN o i)) = true → bT adj (ahead o k) (ordN o k) (ordN o i) = true) ∧ dgN adj o k = nB adj.length (fun i => bT adj (ahead o k) (ordN o k) (ordN o i)) := by
  have hp : IsPerm o adj.length := perm_natL hpm
  refine ⟨fun i hi h => ?_, nB_perm hpm _⟩
  simp only [Bool.and_eq_true, decide_eq_true_eq] at h
  rw [bT_iff]
  exact ⟨fun e => by have := hp.inj hk hi e; omega, fun ⟨m, hm, e⟩ => by have := hp.inj hk (by omega) e; omega, fun ⟨m, hm, e⟩ => by have := hp.inj hi (by omega) e; omega, .one (nbB_iff.1 h.2)⟩
def NoFill (adj : List (List Int)) (o : List Int) : Prop := ∀ k, k < adj.length → ∀ x, x < adj.length → bT adj (ahead o k) (ordN o k) x = true → Nb adj (ordN o k) x
theorem lo_le {k : Nat} (hk : k < adj.length) : loN adj o k ≤ dgN adj o k := by
  rw [(dg_lo hV hpm hk).2]
  exact nB_mono (dg_lo hV hpm hk).1
theorem fill_iff (hn : adj.length ≤ 200) : ((List.range adj.length).map fun v => (adj.getD v []).length).sum = 2 * ((List.range adj.length).map fun k => dgN adj o k).sum ↔ NoFill adj o := by
  have hp : IsPerm o adj.length := perm_natL hpm
  rw [edges_two hV hp hn hpm]
  have h1 := sum_eq_iff (l := List.range adj.length) (f := fun k => loN adj o k) (g := fun k => dgN adj o k) fun k hk => lo_le hV hpm (List.mem_range.1 hk)
  have h2 : ∀ a b : Nat, 2 * a = 2 * b ↔ a = b := fun a b => by omega
  rw [h2, h1]
  constructor
  · intro h k hk x hx hb
    have h3 := h k (List.mem_range.2 hk)
    rw [(dg_lo hV hpm hk).2] at h3
    have h4 := (nB_eq_iff (dg_lo hV hpm hk).1).1 h3
    obtain ⟨p1, p2⟩ := hp.pos hx
    have := h4 (posN o x) p1 (by rw [p2]; exact hb)
    rw [p2, Bool.and_eq_true] at this
    exact nbB_iff.1 this.2
  · intro h k hk
    have hk := List.mem_range.1 hk
    show loN adj o k = _
    rw [(dg_lo hV hpm hk).2]
    refine (nB_eq_iff (dg_lo hV hpm hk).1).2 fun i hi hb => ?_
    rw [Bool.and_eq_true, decide_eq_true_eq]
    refine ⟨?_, nbB_iff.2 (h k hk _ (hp.get hi).2 hb)⟩
    obtain ⟨b1, b2, b3, b4⟩ := bT_iff.1 hb
    rcases Nat.lt_trichotomy k i with h5 | h5 | h5
    · exact h5
    · subst h5; exact absurd rfl b1
    · exact absurd ⟨i, h5, rfl⟩ b3
def Prf (adj : List (List Int)) (o : List Int) (k : Nat) : Prop := ∀ a b, a ≠ b → bT adj (ahead o k) (ordN o k) a = true → bT adj (ahead o k) (ordN o k) b = true → Nb adj a b
theorem ahead_next {k : Nat} : ahead o (k + 1) = fun x => ahead o k x ∨ x = ordN o k := by
  funext x
  refine propext ⟨fun ⟨j, h, e⟩ => ?_, ?_⟩
  · rcases Nat.lt_or_ge j k with h2 | h2
    · exact .inl ⟨j, h2, e⟩
    · obtain rfl : j = k := by omega
      exact .inr e
  · rintro (⟨j, h, e⟩ | e)
    · exact ⟨j, by omega, e⟩
    · exact ⟨k, by omega, e⟩
end
end Go.Fw
end

section
namespace Go.Fw
set_option linter.unusedSimpArgs false
set_option linter.unusedVariables false
open Go
theorem walk_last {A : Nat → Nat → Prop} {P : Nat → Prop} {i j : Nat} (h : WalkP A P i j) : ∃ m, A m j := by
  induction h with
  | one h => exact ⟨_, h⟩
  | step _ _ _ ih => exact ih
theorem walk_mono {A : Nat → Nat → Prop} {P Q : Nat → Prop} (hPQ : ∀ x, P x → Q x) {i j : Nat} (h : WalkP A P i j) : WalkP A Q i j := by
  induction h with
  | one h => exact .one h
  | step h1 h2 _ ih => exact .step h1 (hPQ _ h2) ih
section
variable {adj : List (List Int)} (hV : Valid adj) {o : List Int} (hpm : o.Perm (natL (List.range adj.length)))
include hV hpm
theorem not_ahead {k : Nat} (hk : k < adj.length) : ¬ ahead o k (ordN o k) := fun ⟨j, hj, e⟩ => by
  have hp : IsPerm o adj.length := perm_natL hpm
  have := hp.inj hk (by omega) e
  omega
theorem bT_lt {S : Nat → Prop} {a b : Nat} (h : bT adj S a b = true) : b < adj.length := by
  obtain ⟨m, hm⟩ := walk_last (bT_iff.1 h).2.2.2
  exact (Nb.symm hV _ _ hm).1
theorem prf_iff : (∀ k, k < adj.length → Prf adj o k) ↔ NoFill adj o := by
  have hp : IsPerm o adj.length := perm_natL hpm
  constructor
  · intro h
    have key : ∀ k, k ≤ adj.length → ∀ a b, bT adj (ahead o k) a b = true → Nb adj a b := by
      intro k
      induction k with
      | zero =>
        intro _ a b hb
        have e : ahead o 0 = fun _ => False := by funext x; exact eq_false (fun ⟨j, h, _⟩ => by omega)
        rw [e, bT_none hV, nbB_iff] at hb
        exact hb
      | succ k ih =>
        intro hk a b hb
        rw [ahead_next hV hpm, ← bT_next hV (not_ahead hV hpm (by omega))] at hb
        unfold elB at hb
        by_cases e : a = ordN o k ∨ b = ordN o k
        · rw [if_pos e] at hb; cases hb
        · rw [if_neg e, Bool.or_eq_true, Bool.and_eq_true, Bool.and_eq_true, decide_eq_true_eq] at hb
          rcases hb with hb | ⟨h1, h2, h3⟩
          · exact ih (by omega) a b hb
          · exact h k (by omega) a b h1 h2 h3
    exact fun k hk x _ hb => key k (by omega) _ _ hb
  · intro h k hk a b hab ha hb
    have hal := bT_lt hV hpm ha
    have hbl := bT_lt hV hpm hb
    have h1 : bT adj (ahead o (k + 1)) a b = true := by
      rw [ahead_next hV hpm, ← bT_next hV (not_ahead hV hpm hk)]
      unfold elB
      rw [if_neg (fun e => e.elim (fun e => (bT_iff.1 ha).1 e.symm) (fun e => (bT_iff.1 hb).1 e.symm)), Bool.or_eq_true]
      right
      rw [Bool.and_eq_true, Bool.and_eq_true, decide_eq_true_eq]
      exact ⟨hab, ha, hb⟩
    have key : ∀ a b, a < adj.length → b < adj.length → bT adj (ahead o (k + 1)) a b = true → posN o a ≤ posN o b → Nb adj a b := by
      intro a b hal hbl h1 hle
      obtain ⟨b1, b2, b3, b4⟩ := bT_iff.1 h1
      obtain ⟨p1, p2⟩ := hp.pos hal
      obtain ⟨q1, q2⟩ := hp.pos hbl
      have hki : k + 1 ≤ posN o a := Nat.le_of_not_lt fun h2 => b2 ⟨posN o a, h2, p2.symm⟩
      have h3 := h (posN o a) p1 b hbl
      rw [p2] at h3
      refine h3 (bT_iff.2 ⟨b1, fun ⟨j, hj, e⟩ => ?_, fun ⟨j, hj, e⟩ => ?_, walk_mono (fun x ⟨j, hj, e⟩ => ⟨j, by omega, e⟩) b4⟩)
      · have := hp.inj (j := j) (k := posN o a) (by omega) p1 (by rw [← e, p2]); omega
      · have := hp.inj (j := j) (k := posN o b) (by omega) q1 (by rw [← e, q2]); omega
    rcases Nat.le_total (posN o a) (posN o b) with h2 | h2
    · exact key a b hal hbl h1 h2
    · exact Nb.symm hV _ _ (key b a hbl hal (by rw [bT_symm hV]; exact h1) h2)
end
end Go.Fw
end

section
namespace Go.Fw
set_option linter.unusedSimpArgs false
set_option linter.unusedVariables false
open Go
def Qp (adj : List (List Int)) (B : List Nat) (i : Nat) : Prop := ∀ i', i' < i → ∀ j', j' < i' → Nb adj (B.getD i' 0) (B.getD j' 0)
def Rp (adj : List (List Int)) (B : List Nat) (i j : Nat) : Prop := ∀ j', j' < j → Nb adj (B.getD i 0) (B.getD j' 0)
theorem prf_q {adj : List (List Int)} (hV : Valid adj) {o : List Int} (hpm : o.Perm (natL (List.range adj.length))) {k : Nat} : Prf adj o k ↔ Qp adj ((List.range adj.length).filter (bT adj (ahead o k) (ordN o k))) ((List.range adj.length).filter (bT adj (ahead o k) (ordN o k))).length := by
  have hnd : ((List.range adj.length).filter (bT adj (ahead o k) (ordN o k))).Nodup := List.Pairwise.filter _ List.nodup_range
  have hmem : ∀ x, x ∈ (List.range adj.length).filter (bT adj (ahead o k) (ordN o k)) ↔ bT adj (ahead o k) (ordN o k) x = true := fun x => by
    rw [List.mem_filter, List.mem_range]
    exact ⟨fun h => h.2, fun h => ⟨bT_lt hV hpm h, h⟩⟩
  generalize (List.range adj.length).filter (bT adj (ahead o k) (ordN o k)) = B at hnd hmem
  constructor
  · intro h i hi j hj
    rw [getD_lt hi, getD_lt (show j < B.length by omega)]
    exact h _ _ (fun e => by have := (List.getElem_inj hnd).1 e; omega) ((hmem _).1 (List.getElem_mem _)) ((hmem _).1 (List.getElem_mem _))
  · intro h a b hab ha hb
    obtain ⟨i, hi, rfl⟩ := List.mem_iff_getElem.1 ((hmem a).2 ha)
    obtain ⟨j, hj, rfl⟩ := List.mem_iff_getElem.1 ((hmem b).2 hb)
    rcases Nat.lt_trichotomy i j with h1 | h1 | h1
    · have := h j hj i h1
      rw [getD_lt hi, getD_lt hj] at this
      exact Nb.symm hV _ _ this
    · subst h1; exact absurd rfl hab
    · have := h i hi j h1
      rw [getD_lt hi, getD_lt hj] at this
      exact this
theorem MindegComponents_true (n : Int) (l o : List Int) : d_sparselaw16q_MindegComponents (n, l, o, ()) = some (true, ()) := by
  classical
  rw [← Ok.eq_iff]
  unfold d_sparselaw16q_MindegComponents
  simp only [cond_dec, awake16, Option.bind_some, Place_eq n 13 (by omega) (by omega)]
  refine Ok.ite (fun _ => Ok.some_iff.2 rfl) (fun hl => ?_)
  obtain ⟨m, hm, hm2⟩ := place_nat n 13 (by omega)
  rw [hm]
  refine Ok.bind_of (Graph_ok m l (by omega) (by omega)) ?_
  rintro ⟨⟨adj, ⟨⟩⟩, ⟨⟩⟩ ⟨hal, hV, hx⟩
  simp only at hal hV hx
  subst hal
  refine Ok.bind_of (Shuffle_perm o adj.length (by omega)) ?_
  rintro ⟨p, ⟨⟩⟩ hpm
  simp only at hpm
  have hp : IsPerm p adj.length := perm_natL hpm
  have hn : adj.length ≤ 12 := by omega
  have hdg : ∀ k, dgN adj p k ≤ adj.length := fun k => nB_le _ _
  have hDb : ∀ k, k ≤ adj.length → ((List.range k).map (dgN adj p)).sum ≤ 12 * k := fun k hk => by
    induction k with
    | zero => simp
    | succ k ih => rw [List.range_succ, List.map_append, List.sum_append]; have := hdg k; have := ih (by omega); simp; omega
  have hEb : ∀ k, k ≤ adj.length → ((List.range k).map fun v => (adj.getD v []).length).sum ≤ 12 * k := fun k hk => by
    induction k with
    | zero => simp
    | succ k ih =>
      rw [List.range_succ, List.map_append, List.sum_append]
      have := hx _ (List.getElem_mem (show k < adj.length by omega))
      have := ih (by omega)
      simp only [List.map_cons, List.map_nil, List.sum_cons, List.sum_nil]
      rw [getD_lt (show k < adj.length by omega)]
      omega
  simp only [Degrees_eq hV hn hp, Option.bind_some, bne_self_eq_false, beq_self_eq_true, cond_true, fT_length, cond_false]
  refine Ok.bind_of (Ok.of_eq (loop_seq (r := (((((List.range adj.length).map fun v => (adj.getD v []).length).sum : Nat) : Int), ((((List.range adj.length).map (dgN adj p)).sum : Nat) : Int), (adj, ()), ())) adj.length (fun v => (((((List.range v).map fun v => (adj.getD v []).length).sum : Nat) : Int), ((((List.range v).map (dgN adj p)).sum : Nat) : Int), (v : Int), (adj, ()), ())) 0 rfl (Nat.zero_le _) ?_ ?_) (rfl : _ = _)) ?_
  · intro v _ hv
    have h1 := hDb v (by omega)
    have h2 := hEb v (by omega)
    have h3 := hdg v
    have h4 := hx _ (List.getElem_mem hv)
    simp (disch := omega) only [cond_dec, if_pos, getN_some (List.getElem?_eq_getElem hv), getI_fT, Option.bind_some, wrap_inc, wrap_add]
    rw [List.range_succ, List.map_append, List.sum_append, List.map_append, List.sum_append]
    simp only [List.map_cons, List.map_nil, List.sum_cons, List.sum_nil, Nat.add_zero]
    rw [getD_lt hv]
  · simp (disch := omega) only [cond_dec, if_neg]
  rintro _ rfl
  refine Ok.bind_of (Begin_ok hV (hV.hc (by omega)) (by omega)) ?_
  rintro ⟨⟨T, gone, ⟨⟩⟩, ⟨⟩⟩ hE
  simp only at hE
  have e0 : (fun _ : Nat => False) = ahead p 0 := by funext x; exact (eq_false (fun ⟨j, h, _⟩ => by omega)).symm
  rw [e0] at hE
  have hfin := fill_iff hV hpm (by omega)
  have hle := edges_le hV hp (by omega) hpm
  have hD1 := hDb adj.length (Nat.le_refl _)
  rw [← prf_iff hV hpm] at hfin
  refine Ok.bind_of (P := fun r => r = (decide (∀ k, k < adj.length → Prf adj p k), ())) ?_ ?_
  · refine Ok.seq adj.length (fun k s => ∃ T gone, s = (decide (∀ k', k' < k → Prf adj p k'), (k : Int), (adj, ()), (T, gone, ()), ()) ∧ Elim adj (ahead p k) T gone) 0 ⟨T, gone, by rw [decT (show ∀ k', k' < 0 → Prf adj p k' by intro k' h; omega)]; rfl, hE⟩ (Nat.zero_le _) ?_ ?_
    · rintro k _ _ hk ⟨T, gone, rfl, hE⟩
      obtain ⟨g1, g2⟩ := hp.get hk
      have hna := not_ahead hV hpm hk
      have hpq := prf_q hV hpm (k := k)
      have hBn : ((List.range adj.length).filter (bT adj (ahead p k) (ordN p k))).length ≤ adj.length := Nat.le_trans (List.length_filter_le _ _) (by simp)
      have hBl : ∀ x ∈ (List.range adj.length).filter (bT adj (ahead p k) (ordN p k)), x < adj.length := fun x hx => List.mem_range.1 (List.mem_filter.1 hx).1
      simp (disch := omega) only [cond_dec, if_pos, g1, Option.bind_some, Neighbours_eq hE.tl hE.rows hE.gl (show adj.length ≤ 4294967296 by omega) g2, nbr_dg hE g2 hna]
      generalize (List.range adj.length).filter (bT adj (ahead p k) (ordN p k)) = B at hpq hBn hBl
      refine Ok.bind_of (P := fun r => r = (decide ((∀ k', k' < k → Prf adj p k') ∧ Qp adj B B.length), (adj, ()), (T, gone, ()), ())) ?_ ?_
      · refine Ok.of_eq (loop_seq B.length (fun i => (decide ((∀ k', k' < k → Prf adj p k') ∧ Qp adj B i), (i : Int), (adj, ()), (T, gone, ()), ())) 0 ?_ (Nat.zero_le _) ?_ ?_) rfl
        · exact congrArg (fun b => (b, (0 : Int), (adj, ()), (T, gone, ()), ())) (decide_eq_decide.2 ⟨fun h => ⟨h, fun i' h => by omega⟩, fun h => h.1⟩)
        · intro i _ hi
          simp (disch := omega) only [cond_dec, natL_length, if_pos]
          refine bindR (decide (((∀ k', k' < k → Prf adj p k') ∧ Qp adj B i) ∧ Rp adj B i i), (adj, ()), (T, gone, ()), ()) ?_ (loop_seq i (fun j => (decide (((∀ k', k' < k → Prf adj p k') ∧ Qp adj B i) ∧ Rp adj B i j), (j : Int), (adj, ()), (T, gone, ()), ())) 0 ?_ (Nat.zero_le _) ?_ ?_)
          · simp (disch := omega) only [wrap_inc]
            refine congrArg (fun b => some (Sum.inl (b, ((i + 1 : Nat) : Int), (adj, ()), (T, gone, ()), ()))) (decide_eq_decide.2 ⟨fun ⟨⟨h1, h2⟩, h3⟩ => ⟨h1, fun i' hi' j' hj' => ?_⟩, fun ⟨h1, h2⟩ => ⟨⟨h1, fun i' hi' => h2 i' (by omega)⟩, h2 i (by omega)⟩⟩)
            by_cases e : i' = i
            · subst e; exact h3 j' hj'
            · exact h2 i' (by omega) j' hj'
          · exact congrArg (fun b => (b, (0 : Int), (adj, ()), (T, gone, ()), ())) (decide_eq_decide.2 ⟨fun h => ⟨h, fun i' h => by omega⟩, fun h => h.1⟩)
          · intro j _ hj
            have hjl : j < B.length := by omega
            have hbi := hBl _ (List.getElem_mem hi)
            have hrl := hx _ (List.getElem_mem hbi)
            simp (disch := omega) only [cond_dec, if_pos]
            by_cases hq : ((∀ k', k' < k → Prf adj p k') ∧ Qp adj B i) ∧ Rp adj B i j
            · simp (disch := omega) only [decT hq, beq_self_eq_true, cond_true, nat_get hi, nat_get hjl, getN_some (List.getElem?_eq_getElem hbi), Option.bind_some, In_eq _ _ (show (adj[B[i]]).length < 4611686018427387904 by omega), wrap_inc]
              refine congrArg (fun b => some (Sum.inl (b, ((j + 1 : Nat) : Int), (adj, ()), (T, gone, ()), ()))) (decide_eq_decide.2 ⟨fun h => ⟨hq.1, fun j' hj' => ?_⟩, fun h => ?_⟩)
              · by_cases e : j' = j
                · subst e
                  rw [getD_lt hi, getD_lt hjl]
                  exact ⟨hbi, h⟩
                · exact hq.2 j' (by omega)
              · have := h.2 j (by omega)
                rw [getD_lt hi, getD_lt hjl] at this
                exact this.2
            · have hq2 : ¬ (((∀ k', k' < k → Prf adj p k') ∧ Qp adj B i) ∧ Rp adj B i (j + 1)) := fun h => hq ⟨h.1, fun j' hj' => h.2 j' (by omega)⟩
              simp (disch := omega) only [decF hq, decF hq2, show (false == true) = false from rfl, cond_false, Option.bind_some, wrap_inc]
          · simp (disch := omega) only [cond_dec, if_neg]
        · simp (disch := omega) only [cond_dec, natL_length, if_neg]
      · rintro _ rfl
        simp only [g1, Option.bind_some]
        refine Ok.bind_of (Eliminate_ok hV (by omega) hE g2 hna) ?_
        rintro ⟨⟨T2, gone2, ⟨⟩⟩, ⟨⟩⟩ hE2
        simp only at hE2
        rw [← ahead_next hV hpm] at hE2
        simp (disch := omega) only [wrap_inc]
        refine Ok.some_iff.2 ⟨T2, gone2, ?_, hE2⟩
        refine congrArg (fun b => (b, ((k + 1 : Nat) : Int), (adj, ()), (T2, gone2, ()), ())) (decide_eq_decide.2 ?_)
        rw [← hpq]
        refine ⟨fun ⟨h1, h2⟩ k' hk' => ?_, fun h => ⟨fun k' hk' => h k' (by omega), h k (by omega)⟩⟩
        by_cases e : k' = k
        · subst e; exact h2
        · exact h1 k' (by omega)
    · rintro _ ⟨T, gone, rfl, hE⟩
      simp (disch := omega) only [cond_dec, if_neg]
      exact Ok.some_iff.2 rfl
  · rintro _ rfl
    generalize ((List.range adj.length).map fun v => (adj.getD v []).length).sum = EE at hfin hle
    have hDD : ((List.range adj.length).map fun k => dgN adj p k).sum = ((List.range adj.length).map (dgN adj p)).sum := rfl
    rw [hDD] at hfin hle
    generalize ((List.range adj.length).map (dgN adj p)).sum = DD at hfin hle hD1
    have hw : IntKind.i64.wrap (2 * (DD : Int)) = ((2 * DD : Nat) : Int) := by rw [wrap64] <;> omega
    have hb : ((((2 * DD : Nat) : Int) == (EE : Int)) == decide (∀ k, k < adj.length → Prf adj p k)) = true := by
      rw [beqI, beq_iff_eq]
      exact decide_eq_decide.2 (by rw [← hfin]; omega)
    simp only [hw, decT (show ((2 * DD : Nat) : Int) ≥ (EE : Int) by omega), hb, beq_self_eq_true, cond_true, Option.bind_some]
    exact Ok.some_iff.2 rfl
end Go.Fw
end
