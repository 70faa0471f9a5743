/-
  The plain laws, part 6: the elimination forest.
-/
import Derived.Test.YtlalecmgnaoiiaaPl5
import Derived.Test.YtlalecmgnaoiiaaTh1
namespace Go.Fw

/-- v and w are neighbours. -/
def Nb (adj : List (List Int)) (v w : Nat) : Prop := ∃ h : v < adj.length, (w : Int) ∈ adj[v]

theorem Nb.lt {adj : List (List Int)} (hv : Valid adj) {v w : Nat} (h : Nb adj v w) : v < adj.length ∧ w < adj.length := by
  obtain ⟨h1, h2⟩ := h
  have := (hv.asc v h1).2 _ h2
  exact ⟨h1, by omega⟩
theorem Nb.symm {adj : List (List Int)} (hv : Valid adj) : ∀ v w, Nb adj v w → Nb adj w v := fun v w h => by
  obtain ⟨h1, h2⟩ := h.lt hv
  exact ⟨h2, hv.sym v h1 w h2 h.2⟩
theorem Nb.ne {adj : List (List Int)} (hv : Valid adj) {v w : Nat} (h : Nb adj v w) : v ≠ w := fun e => by
  subst e
  exact hv.irr v h.1 h.2

theorem Walk.lt {adj : List (List Int)} (hv : Valid adj) {k i j : Nat} (h : Walk (Nb adj) k i j) : i < adj.length ∧ j < adj.length := by
  induction h with
  | one h => exact h.lt hv
  | step h _ _ ih => exact ⟨(h.lt hv).1, ih.2⟩

/-- Ways up. -/
inductive Up (R : Nat → Nat → Prop) : Nat → Nat → Prop
  | refl (u : Nat) : Up R u u
  | step {u p v : Nat} : R u p → Up R p v → Up R u v
theorem Up.trans {R : Nat → Nat → Prop} {u v w : Nat} (h : Up R u v) (h2 : Up R v w) : Up R u w := by
  induction h with
  | refl => exact h2
  | step h _ ih => exact .step h (ih h2)
theorem Up.mono {R R' : Nat → Nat → Prop} (hR : ∀ u p, R u p → R' u p) {u v : Nat} (h : Up R u v) : Up R' u v := by
  induction h with
  | refl => exact .refl _
  | step h _ ih => exact .step (hR _ _ h) ih

/-- Two ways up from one vertex: one goes on where the other ends. -/
theorem Up.comp {R : Nat → Nat → Prop} (det : ∀ u p q, R u p → R u q → p = q) {u a b : Nat} (h : Up R u a) (h2 : Up R u b) : Up R a b ∨ Up R b a := by
  induction h with
  | refl => exact .inl h2
  | @step u p a hR hv ih =>
    cases h2 with
    | refl => exact .inr (.step hR hv)
    | @step _ q _ hR' hv' =>
      obtain rfl := det _ _ _ hR hR'
      exact ih hv'

section
variable (adj : List (List Int))

/-- The parents when the columns before j are done, and of column j the neighbours of T. -/
def ParOf (j : Nat) (T : Nat → Prop) (u p : Nat) : Prop :=
  (p < j ∧ IsPar (Nb adj) u p) ∨ (p = j ∧ u < j ∧ (∀ q, q < j → ¬ IsPar (Nb adj) u q) ∧ ∃ i, T i ∧ i < j ∧ Nb adj j i ∧ Anc (Nb adj) i u)

def RelL (par : List Int) (u p : Nat) : Prop := par[u]? = some (p : Int)

structure Stage (j : Nat) (T : Nat → Prop) (par ah : List Int) : Prop where
  lp : par.length = adj.length
  la : ah.length = adj.length
  parI : ∀ u p, RelL par u p ↔ (u < adj.length ∧ ParOf adj j T u p)
  none : ∀ (u : Nat) (x : Int), par[u]? = some x → x = -1 ∨ ∃ p : Nat, x = (p : Int)
  ah0 : ∀ u : Nat, ah[u]? = some (-1) ↔ par[u]? = some (-1)
  ah1 : ∀ (u : Nat) (x : Int), ah[u]? = some x → x = -1 ∨ ∃ a p : Nat, x = (a : Int) ∧ RelL par u p ∧ Up (RelL par) p a

variable {adj} {j : Nat} {T : Nat → Prop} {par ah : List Int}

theorem ParOf.lt {u p : Nat} (h : ParOf adj j T u p) : u < p ∧ p ≤ j := by
  rcases h with ⟨h1, h2⟩ | ⟨h1, h2, _⟩
  · exact ⟨h2.1, by omega⟩
  · omega

theorem Stage.up_le (h : Stage adj j T par ah) {u v : Nat} (hu : Up (RelL par) u v) : u ≤ v ∧ (u = v ∨ v ≤ j) := by
  induction hu with
  | refl => exact ⟨Nat.le_refl _, .inl rfl⟩
  | @step u p v hR hv ih =>
    have h1 := ((h.parI _ _).1 hR).2.lt
    rcases ih.2 with e | e
    · exact ⟨by omega, .inr (by omega)⟩
    · exact ⟨by omega, .inr e⟩

/-- A way up that stays below j is a way up of the final forest. -/
theorem Stage.up_anc (h : Stage adj j T par ah) {u v : Nat} (hu : Up (RelL par) u v) (hv : v < j) : Anc (Nb adj) u v := by
  induction hu with
  | refl => exact .refl _
  | @step u p v hR hup ih =>
    have hp : p ≤ v := (h.up_le hup).1
    rcases ((h.parI _ _).1 hR).2 with ⟨_, h2⟩ | ⟨h1, _⟩
    · exact .up h2 (ih hv)
    · omega

/-- The last step of a way up to j. -/
theorem Stage.up_last (h : Stage adj j T par ah) {u : Nat} (hu : Up (RelL par) u j) (hlt : u < j) : ∃ w, Anc (Nb adj) u w ∧ w < j ∧ RelL par w j := by
  generalize hv : j = v at hu
  induction hu with
  | refl => omega
  | @step u p v hR hup ih =>
    subst hv
    have h1 := ((h.parI _ _).1 hR).2.lt
    rcases Nat.lt_or_ge p j with hp | hp
    · obtain ⟨w, w1, w2, w3⟩ := ih hp rfl
      rcases ((h.parI _ _).1 hR).2 with ⟨_, h2⟩ | ⟨h2, _⟩
      · exact ⟨w, .up h2 w1, w2, w3⟩
      · omega
    · obtain rfl : p = j := by omega
      exact ⟨u, .refl _, by omega, hR⟩

/-- The vertex without a parent before j above another is one alone. -/
theorem root_uniq {j u : Nat} {r s : Nat} (h : Anc (Nb adj) u r) (h' : Anc (Nb adj) u s) (hr : ∀ q, q < j → ¬ IsPar (Nb adj) r q) (hs : ∀ q, q < j → ¬ IsPar (Nb adj) s q) (hrj : r < j) (hsj : s < j) : r = s := by
  induction h with
  | refl u =>
    cases h' with
    | refl => rfl
    | @up _ p _ hp hv => exact absurd hp (hr p (by have := hv.le; omega))
  | @up u p r hp hv ih =>
    cases h' with
    | refl => exact absurd hp (hs p (by have := hv.le; omega))
    | @up _ q _ hq hw =>
      obtain rfl := hp.uniq hq
      exact ih hw hr hrj

theorem RelL.det {par : List Int} : ∀ u p q, RelL par u p → RelL par u q → p = q := fun u p q h h' => by
  unfold RelL at h h'
  rw [h] at h'; simp at h'; omega

/-- The rest of a way up. -/
theorem Up.tail {R : Nat → Nat → Prop} {u v : Nat} (h : Up R u v) (hne : u ≠ v) : ∃ p, R u p ∧ Up R p v := by
  cases h with
  | refl => exact absurd rfl hne
  | step hR hv => exact ⟨_, hR, hv⟩

/-- What joining does. -/
theorem join_spec (hV : Valid adj) (hn : adj.length ≤ 200) (h : Stage adj j T par ah) (hj : j < adj.length) {i0 : Nat} (hi0 : Nb adj j i0) :
    Ok (d_etree_forest_join ((par, (ah, ())), (i0 : Int), (j : Int), ())) (fun r => Stage adj j (fun i => T i ∨ i = i0) r.1.1 r.1.2.1) := by
  have hil : i0 < adj.length := (hi0.lt hV).2
  unfold d_etree_forest_join
  simp only [Ok.bind_iff]
  -- the end of the way
  let Fin : List Int → List Int → Prop := fun par' ah' =>
    (∀ u, ah'[u]? = ah[u]? ∨ (ah'[u]? = some (j : Int) ∧ u < j ∧ Up (RelL par) i0 u)) ∧ ah'.length = adj.length ∧
    ((par' = par ∧ (Up (RelL par) i0 j ∨ j ≤ i0)) ∨ ∃ r, r < j ∧ par[r]? = some (-1) ∧ Up (RelL par) i0 r ∧ par' = par.set r (j : Int) ∧ ah'[r]? = some (j : Int))
  refine Ok.mono (P := fun q => Fin q.1.1 q.1.2.1) ?_ ?_
  · refine Ok.loop (fun s => (s.1 = -1 ∧ Fin s.2.1.1 s.2.1.2.1) ∨ ∃ i : Nat, s.1 = (i : Int) ∧ i < adj.length ∧ Up (RelL par) i0 i ∧ s.2.1.1 = par ∧ s.2.1.2.1.length = adj.length ∧
        ∀ u, s.2.1.2.1[u]? = ah[u]? ∨ (s.2.1.2.1[u]? = some (j : Int) ∧ u < j ∧ u < i ∧ Up (RelL par) i0 u)) (fun s => if s.1 = -1 then 0 else 1000 - s.1.toNat)
      (.inr ⟨i0, rfl, hil, .refl _, rfl, h.la, fun u => .inl rfl⟩) ?_
    rintro ⟨i', ⟨par', ah', _⟩, _⟩ hs
    simp only at hs
    simp only [Ok.bind_iff, Ok.bif_iff, Ok.some_iff]
    rcases hs with ⟨rfl, hF⟩ | ⟨i, rfl, hi, hup, rfl, hal, hah⟩
    · exact ⟨fun hf => by simp at hf, fun _ => hF⟩
    refine ⟨fun _ => ⟨fun hij => ?_, fun hij => ?_⟩, fun hf => by simp at hf⟩
    · have hij : i < j := by simpa using hij
      simp only [Ok.idxN_iff, Ok.atO_iff, Ok.map_iff, Ok.some_iff, Int.toNat_natCast]
      have hial : i < ah'.length := by omega
      have hahi : ah'[i]? = ah[i]? := by
        rcases hah i with e | ⟨_, _, hl, _⟩
        · exact e
        · omega
      refine ⟨⟨by omega, hial⟩, hial, ⟨by omega, hial⟩, hial, fun hn1 => ?_, fun hn1 => ?_⟩
      · -- a root
        have hn1 : ah'[i] = -1 := by simpa using hn1
        have hroot : par'[i]? = some (-1) := (h.ah0 i).1 (by rw [← hahi, List.getElem?_eq_getElem hial, hn1])
        have hpl : i < par'.length := by rw [h.lp]; exact hi
        refine ⟨⟨by omega, hpl⟩, hpl, .inl ⟨hn1, ?_, ?_, .inr ⟨i, hij, hroot, hup, rfl, ?_⟩⟩, ?_⟩
        · intro u
          rcases Nat.lt_trichotomy u i with hu | hu | hu
          · rw [List.getElem?_set_ne (by omega)]
            exact (hah u).imp id (fun ⟨a, b, _, c⟩ => ⟨a, b, c⟩)
          · subst hu
            rw [List.getElem?_set_self hial]
            exact .inr ⟨rfl, hij, hup⟩
          · rw [List.getElem?_set_ne (by omega)]
            exact (hah u).imp id (fun ⟨a, b, _, c⟩ => ⟨a, b, c⟩)
        · simp [hal]
        · rw [List.getElem?_set_self hial]
        · rw [if_pos hn1, if_neg (by omega)]; omega
      · -- on the way
        have hn1 : ah'[i] ≠ -1 := by simpa using hn1
        rcases h.ah1 i ah'[i] (by rw [← hahi, List.getElem?_eq_getElem hial]) with e | ⟨a, p, ha, hR, hpa⟩
        · exact absurd e hn1
        have hlt := ((h.parI _ _).1 hR).2.lt
        have hple := h.up_le hpa
        have han : a < adj.length := by rcases hple.2 with e | e <;> omega
        refine ⟨.inr ⟨a, ha, han, hup.trans (.step hR hpa), trivial, by simp [hal], fun u => ?_⟩, ?_⟩
        · rcases Nat.lt_trichotomy u i with hu | hu | hu
          · rw [List.getElem?_set_ne (by omega)]
            exact (hah u).imp id (fun ⟨a1, b, c, d⟩ => ⟨a1, b, by omega, d⟩)
          · subst hu
            rw [List.getElem?_set_self hial]
            exact .inr ⟨rfl, hij, by omega, hup⟩
          · rw [List.getElem?_set_ne (by omega)]
            exact (hah u).imp id (fun ⟨a1, b, c, d⟩ => ⟨a1, b, by omega, d⟩)
        · rw [if_neg hn1, if_neg (by omega), ha]; simp only [Int.toNat_natCast]; omega
    · have hij : j ≤ i := by simpa using hij
      refine ⟨fun u => (hah u).imp id (fun ⟨a, b, _, c⟩ => ⟨a, b, c⟩), hal, .inl ⟨rfl, ?_⟩⟩
      rcases (h.up_le hup).2 with e | e
      · exact .inr (by omega)
      · obtain rfl : i = j := by omega
        exact .inl hup
  · rintro ⟨⟨par', ah', _⟩, _⟩ ⟨f1, f2, f3⟩
    simp only at f1 f2 f3
    simp only [Ok.some_iff]
    rcases f3 with ⟨rfl, hup⟩ | ⟨r, hr, hroot, hup, rfl, har⟩
    · -- nothing new
      have hpar : ∀ u p, u < adj.length → (ParOf adj j (fun i => T i ∨ i = i0) u p ↔ ParOf adj j T u p) := by
        intro u p _
        constructor
        · rintro (h1 | ⟨rfl, h2, h3, i, hT, hij, hb, hanc⟩)
          · exact .inl h1
          · rcases hT with hT | rfl
            · exact .inr ⟨rfl, h2, h3, i, hT, hij, hb, hanc⟩
            · rcases hup with hup | hup
              · obtain ⟨w, w1, w2, w3⟩ := h.up_last hup hij
                have hw := ((h.parI _ _).1 w3).2
                rcases hw with ⟨hh, _⟩ | hw
                · omega
                · obtain rfl := root_uniq w1 hanc hw.2.2.1 h3 w2 h2
                  exact .inr hw
              · omega
        · rintro (h1 | ⟨rfl, h2, h3, i, hT, hij, hb, hanc⟩)
          · exact .inl h1
          · exact .inr ⟨rfl, h2, h3, i, .inl hT, hij, hb, hanc⟩
      refine ⟨h.lp, f2, fun u p => (h.parI u p).trans (and_congr_right fun hu => (hpar u p hu).symm), h.none, fun u => ?_, fun u x hx => ?_⟩
      · rcases f1 u with e | ⟨e, hu, hiu⟩
        · rw [e]; exact h.ah0 u
        · rw [e]
          constructor
          · intro hh; simp at hh
          · intro hh
            -- u lies on the way to j: it has a parent
            rcases hup with hup | hup
            · obtain ⟨w, w1, w2, w3⟩ := h.up_last hup (by have := (h.up_le hiu).1; omega)
              have hanc := h.up_anc hiu hu
              have hun : ∀ q, q < j → ¬ IsPar (Nb adj) u q := fun q hq hp => by
                have : RelL par' u q := (h.parI u q).2 ⟨by omega, .inl ⟨hq, hp⟩⟩
                unfold RelL at this; rw [hh] at this; simp at this
              rcases ((h.parI _ _).1 w3).2 with ⟨hjj, _⟩ | hw
              · omega
              · obtain rfl := root_uniq w1 hanc hw.2.2.1 hun w2 hu
                unfold RelL at w3; rw [hh] at w3; simp at w3
            · have := (h.up_le hiu).1; omega
      · rcases f1 u with e | ⟨e, hu, hiu⟩
        · rw [e] at hx; exact h.ah1 u x hx
        · rw [e] at hx; cases hx
          right
          have hi0j : i0 < j := by have := (h.up_le hiu).1; omega
          rcases hup with hup | hup
          · rcases hiu.comp RelL.det hup with hc | hc
            · obtain ⟨p, hp1, hp2⟩ := hc.tail (by omega)
              exact ⟨j, p, rfl, hp1, hp2⟩
            · have := (h.up_le hc).1; omega
          · omega
    · -- the root gets a parent
      have hrl : r < par.length := by
        rcases Nat.lt_or_ge r par.length with hh | hh
        · exact hh
        · rw [List.getElem?_eq_none hh] at hroot; cases hroot
      have hrn : ∀ p, ¬ RelL par r p := fun p hp => by unfold RelL at hp; rw [hroot] at hp; simp at hp
      have hrj : ∀ q, q < j → ¬ IsPar (Nb adj) r q := fun q hq hp => hrn q ((h.parI r q).2 ⟨by have := h.lp; omega, .inl ⟨hq, hp⟩⟩)
      have hsub : ∀ u p, RelL par u p → RelL (par.set r (j : Int)) u p := fun u p hp => by
        have hne : u ≠ r := fun e => hrn p (e ▸ hp)
        unfold RelL at hp ⊢
        rw [List.getElem?_set_ne (by omega)]; exact hp
      have hself : RelL (par.set r (j : Int)) r j := by unfold RelL; rw [List.getElem?_set_self hrl]
      have hi0j : i0 < j := by have := (h.up_le hup).1; omega
      -- a vertex of the way that has no parent is the root
      have hway : ∀ u, Up (RelL par) i0 u → u ≠ r → ∃ p, RelL par u p ∧ Up (RelL par) p r := fun u hu hne => by
        rcases hu.comp RelL.det hup with hc | hc
        · exact hc.tail hne
        · obtain ⟨p, hp, _⟩ := hc.tail (Ne.symm hne)
          exact absurd hp (hrn p)
      refine ⟨by simp [h.lp], f2, fun u p => ?_, fun u x hx => ?_, fun u => ?_, fun u x hx => ?_⟩
      · by_cases hur : u = r
        · subst hur
          have e : RelL (par.set u (j : Int)) u p ↔ p = j := ⟨fun hp => RelL.det _ _ _ hp hself, fun e => e ▸ hself⟩
          rw [e]
          constructor
          · rintro rfl
            exact ⟨by have := h.lp; omega, .inr ⟨rfl, hr, hrj, i0, .inr rfl, hi0j, hi0, h.up_anc hup hr⟩⟩
          · rintro ⟨_, ⟨h1, h2⟩ | ⟨h1, _⟩⟩
            · exact absurd h2 (hrj p h1)
            · exact h1
        · have e : RelL (par.set r (j : Int)) u p ↔ RelL par u p := by unfold RelL; rw [List.getElem?_set_ne (by omega)]
          rw [e, h.parI]
          refine and_congr_right fun _ => ?_
          constructor
          · rintro (h1 | ⟨rfl, h2, h3, i, hT, hij, hb, hanc⟩)
            · exact .inl h1
            · exact .inr ⟨rfl, h2, h3, i, .inl hT, hij, hb, hanc⟩
          · rintro (h1 | ⟨rfl, h2, h3, i, hT, hij, hb, hanc⟩)
            · exact .inl h1
            · rcases hT with hT | rfl
              · exact .inr ⟨rfl, h2, h3, i, hT, hij, hb, hanc⟩
              · exact absurd (root_uniq hanc (h.up_anc hup hr) h3 hrj h2 hr) hur
      · by_cases hur : u = r
        · subst hur
          rw [List.getElem?_set_self hrl] at hx
          cases hx
          exact .inr ⟨j, rfl⟩
        · rw [List.getElem?_set_ne (by omega)] at hx
          exact h.none u x hx
      · by_cases hur : u = r
        · subst hur
          rw [har, List.getElem?_set_self hrl]
        · rw [List.getElem?_set_ne (by omega)]
          rcases f1 u with e | ⟨e, hu, hiu⟩
          · rw [e]; exact h.ah0 u
          · rw [e]
            constructor
            · intro hh; simp at hh
            · intro hh
              obtain ⟨p, hp, _⟩ := hway u hiu hur
              unfold RelL at hp; rw [hh] at hp; simp at hp
      · rcases f1 u with e | ⟨e, hu, hiu⟩
        · rw [e] at hx
          rcases h.ah1 u x hx with e | ⟨a, p, ha, hR, hpa⟩
          · exact .inl e
          · exact .inr ⟨a, p, ha, hsub _ _ hR, hpa.mono hsub⟩
        · rw [e] at hx; cases hx
          right
          by_cases hur : u = r
          · subst hur
            exact ⟨j, j, rfl, hself, .refl _⟩
          · obtain ⟨p, hp, hpr⟩ := hway u hiu hur
            exact ⟨j, p, rfl, hsub _ _ hp, (hpr.mono hsub).trans (.step hself (.refl _))⟩
end
end Go.Fw
