/-
  The framework, part 12: what append does to what is known.
-/
import Derived.Test.YtlalecmgnaoiiaaFw11
namespace Go.Fw

theorem setCells_ne (b : Nat) : ∀ (vs : List Value) (o : Nat) (w : World) (k : Nat), k ≠ b → (w.setCells b o vs).heap[k]? = w.heap[k]?
  | [], _, _, _, _ => rfl
  | v :: r, o, w, k, hk => by
    rw [World.setCells, setCells_ne b r _ _ k hk]
    simp only [World.setCell, Array.getElem?_modify]
    rw [if_neg (fun e => hk e.symm)]
theorem setCells_size (b : Nat) : ∀ (vs : List Value) (o : Nat) (w : World), (w.setCells b o vs).heap.size = w.heap.size
  | [], _, _ => rfl
  | v :: r, o, w => by rw [World.setCells, setCells_size b r]; simp
theorem setCells_rest (b : Nat) : ∀ (vs : List Value) (o : Nat) (w : World), (w.setCells b o vs).os = w.os ∧ (w.setCells b o vs).tape = w.tape ∧ (w.setCells b o vs).output = w.output
  | [], _, _ => ⟨rfl, rfl, rfl⟩
  | v :: r, o, w => by rw [World.setCells]; exact setCells_rest b r _ _
theorem setCells_some (b : Nat) (vs : List Value) (o : Nat) (w : World) (h : ∀ j, j < vs.length → (w.cell? ⟨b, o + j, none⟩).isSome = true) (c : Nat) : ((w.setCells b o vs).cell? ⟨b, c, none⟩).isSome = (w.cell? ⟨b, c, none⟩).isSome := by
  by_cases hc : o ≤ c ∧ c < o + vs.length
  · obtain ⟨j, rfl⟩ : ∃ j, c = o + j := ⟨c - o, by omega⟩
    rw [World.cell?_setCells_in b vs o w h j (by omega), h j (by omega)]; rfl
  · rw [World.cell?_setCells_out b vs o w _ (fun _ _ => by simp only; omega)]
theorem setCells_sm {b : Nat} {vs : List Value} {o : Nat} {w : World} {k : Nat} (hk : k ≠ b) : Sm w (w.setCells b o vs) k := .of_heap (setCells_ne b vs o w k hk)

theorem append_core {P : Program} {M : Md → Nat → Prop} {w : World} {T ty S : TypeId} {t : Ty} {i : TypeInfo} (hT : P.underlying T = some (.slice S)) (hS : TyF P t S) (hi : P.info? S = some i) (hsz : t.size ≤ 1300)
    {ad yd : Option Addr} {n cap c : Nat} {xs ys : List t.den} {f1 : List Nat} {fys : List (List Nat)} (hx : Rep M w (.osl t) [.slice ad n cap] xs f1) (hy : Elems M w t yd ys fys)
    (hnd : f1.Nodup) (hM : ∀ b ∈ f1, ∀ m, ¬ M m b) (hndy : fys.flatten.Nodup) (hdis : ∀ b ∈ f1, b ∉ fys.flatten) (hMs : ∀ m b, M m b → b < w.heap.size) (hfs : ∀ b ∈ f1, b < w.heap.size) (hys : ∀ b ∈ fys.flatten, b < w.heap.size)
    (hlim : xs.length + ys.length ≤ lim) :
    ∃ v' w' f2, (Builtin.append_ #[T, T] ty #[.slice ad n cap, .slice yd ys.length c]).run P w = .ok v' w' ∧ Rep M w' (.osl t) [v'] (xs ++ ys) f2 ∧ Rep M w' (.osl t) [.slice ad n cap] xs f1 ∧ f2.Nodup ∧
      (∀ b ∈ f2, b ∈ f1 ∨ b ∈ fys.flatten ∨ (w.heap.size ≤ b ∧ b < w'.heap.size)) ∧ w.heap.size ≤ w'.heap.size ∧ w'.os = w.os ∧ w'.tape = w.tape ∧ w'.output = w.output ∧
      (∀ b, b < w.heap.size → b ∉ f1 → w'.heap[b]? = w.heap[b]?) ∧ (∀ m b, M m b → Sm w w' b) ∧ (∀ b ∈ fys.flatten, Sm w w' b) := by
  obtain ⟨rfl, hcap, fxs, hxe, hfx1, hfx2, hxa⟩ := Elems.osl hx
  have hpos := hS.pos
  obtain ⟨olds, o1, o2, o3, o4⟩ := hxe.cells hpos
  obtain ⟨news, n1, n2, n3, n4⟩ := hy.cells hpos
  have hlx := hxe.1
  have hly := hy.1
  obtain ⟨v', w', hr, hcase⟩ := append_run (P := P) (w := w) (ty := ty) hT hS hi hsz (ad := ad) (yd := yd) (n := xs.length) (cap := cap) (m := ys.length) (c := c) (olds := olds) (news := news) o1
    (fun b hb j v hj => o3 b hb (by rintro rfl; simp at o1; subst o1; simp at hj) j v hj)
    (fun b hb => by rcases hxa with ⟨h0, _⟩ | ⟨b', o', h0, _⟩ <;> rw [hb] at h0 <;> cases h0; rfl) hcap
    (fun h0 => by rcases hxa with ⟨_, h, _⟩ | ⟨b', o', h, _⟩; exact h; rw [h0] at h; cases h) n1 n2
    (fun b hb hm j v hj => n3 b hb (by rintro rfl; simp at hm) j v hj)
    (fun h0 => by rcases hy.2 with rfl | ⟨b, o, h, _⟩; rfl; rw [h0] at h; cases h)
    (fun b hb => by
      rcases hxa with ⟨h0, _⟩ | ⟨b', o', h0, _, hfr⟩
      · rw [hb] at h0; cases h0
      · rw [hb] at h0; cases h0; exact hfr) hlim
  have hflat : (fxs ++ fys).flatten = fxs.flatten ++ fys.flatten := by simp
  have hnd2 : (fxs ++ fys).flatten.Nodup := by
    rw [hflat, List.nodup_append]
    exact ⟨hfx2 hnd, hndy, fun a ha b hb e => hdis a (hfx1 a ha) (e ▸ hb)⟩
  -- each element of the whole list, out of a row of cells
  have hel : ∀ (k : Nat) (y : t.den) (f : List Nat), (xs ++ ys)[k]? = some y → (fxs ++ fys)[k]? = some f → Rep M w t (((olds ++ news).drop (k * t.size)).take t.size) y f ∧ ∀ b ∈ f, b ∈ fxs.flatten ∨ b ∈ fys.flatten := by
    intro k y f hk hf
    rcases Nat.lt_or_ge k xs.length with h | h
    · rw [List.getElem?_append_left h] at hk
      rw [List.getElem?_append_left (by omega)] at hf
      have h1 : (k + 1) * t.size ≤ xs.length * t.size := Nat.mul_le_mul_right _ h
      rw [Nat.add_mul, Nat.one_mul] at h1
      rw [List.drop_append_of_le_length (by omega), List.take_append_of_le_length (by simp; omega)]
      exact ⟨o4 k y f hk hf, fun b hb => .inl (List.mem_flatten.2 ⟨f, List.mem_of_getElem? hf, hb⟩)⟩
    · rw [List.getElem?_append_right h] at hk
      rw [List.getElem?_append_right (by omega), hlx] at hf
      have h1 : xs.length * t.size ≤ k * t.size := Nat.mul_le_mul_right _ h
      rw [List.drop_append, List.drop_of_length_le (by omega), List.nil_append, o1, show k * t.size - xs.length * t.size = (k - xs.length) * t.size by rw [Nat.sub_mul]]
      exact ⟨n4 _ y f hk hf, fun b hb => .inr (List.mem_flatten.2 ⟨f, List.mem_of_getElem? hf, hb⟩)⟩
  rcases hcase with ⟨hroom, rfl, hw⟩ | ⟨cap', cells, hgr, hge, rfl, hg, hh, hhs, hcs, hcl⟩
  · rcases hw with ⟨rfl, rfl⟩ | ⟨b, rfl, rfl⟩
    · -- nil onto nil
      have hc0 : cap = 0 := by rcases hxa with ⟨_, h, _⟩ | ⟨b', o', h, _⟩; exact h; cases h
      obtain rfl : xs = [] := List.eq_nil_of_length_eq_zero (by omega)
      obtain rfl : ys = [] := List.eq_nil_of_length_eq_zero (by omega)
      exact ⟨_, w', f1, hr, by simpa using hx, hx, hnd, fun b hb => .inl hb, Nat.le_refl _, rfl, rfl, rfl, fun _ _ _ => rfl, fun _ _ _ => Sm.refl _ _, fun _ _ => Sm.refl _ _⟩
    · rcases hxa with ⟨h0, _⟩ | ⟨b', o', h0, rfl, hfr⟩
      · cases h0
      cases h0
      have hb' : b' ∉ fxs.flatten := (List.nodup_cons.1 hnd).1
      have hby : b' ∉ fys.flatten := hdis b' (by simp)
      have hmul : (xs.length + ys.length) * t.size ≤ cap * t.size := Nat.mul_le_mul_right _ hroom
      rw [Nat.add_mul] at hmul
      have hsome : ∀ j, j < news.length → (w.cell? ⟨b', o' + xs.length * t.size + j, none⟩).isSome = true := fun j hj => (hfr _ (by omega) (by omega)).1
      have hMsm : ∀ m k, M m k → M m k ∧ Sm w (w.setCells b' (o' + xs.length * t.size) news) k := fun m k hk => ⟨hk, setCells_sm (fun e => hM b' (by simp) m (e ▸ hk))⟩
      have hfr' : Fr (w.setCells b' (o' + xs.length * t.size) news) b' o' (o' + cap * t.size) := fun j h1 h2 => by
        rw [setCells_some b' news _ w hsome, World.frozen?_setCells]; exact hfr j h1 h2
      have hat : ∀ j v, (olds ++ news)[j]? = some v → (w.setCells b' (o' + xs.length * t.size) news).cell? ⟨b', o' + j, none⟩ = some v := by
        intro j v hj
        rcases Nat.lt_or_ge j olds.length with h | h
        · rw [List.getElem?_append_left h] at hj
          rw [World.cell?_setCells_out b' news _ w _ (fun _ _ => by simp only; omega)]
          have := o3 ⟨b', o', none⟩ rfl (by rintro rfl; simp at o1; subst o1; simp at h) j v hj
          rwa [Addr.add_lit] at this
        · rw [List.getElem?_append_right h] at hj
          obtain ⟨q, rfl⟩ : ∃ q, j = olds.length + q := ⟨j - olds.length, by omega⟩
          rw [Nat.add_sub_cancel_left] at hj
          have hq : q < news.length := (List.getElem?_eq_some_iff.1 hj).1
          rw [o1, ← Nat.add_assoc, World.cell?_setCells_in b' news _ w hsome q hq]
          rw [List.getElem?_eq_getElem hq] at hj; exact hj
      refine ⟨_, _, b' :: (fxs ++ fys).flatten, hr, ?_, ?_, ?_, ?_, by rw [setCells_size]; exact Nat.le_refl _, (setCells_rest _ _ _ _).1, (setCells_rest _ _ _ _).2.1, (setCells_rest _ _ _ _).2.2, ?_, fun m k hk => (hMsm m k hk).2, fun k hk => setCells_sm (fun e => hby (by have e' : k = b' := e; rw [← e']; exact hk))⟩
      · refine ⟨some ⟨b', o', none⟩, cap, by simp, .inr ⟨b', o', fxs ++ fys, rfl, rfl, by simp [hlx, hly], by simpa using hroom, hfr', fun k y f hk hf => ?_⟩⟩
        obtain ⟨h1, h2⟩ := hel k y f hk hf
        refine ⟨_, h1.len, fun j v hj => ?_, h1.mono hMsm (fun q hq => setCells_sm (fun e => ?_))⟩
        · have hj' : (olds ++ news)[k * t.size + j]? = some v := by
            rw [List.getElem?_take] at hj
            split at hj
            · rwa [List.getElem?_drop] at hj
            · cases hj
          rw [Nat.add_assoc]; exact hat _ _ hj'
        · subst e
          rcases h2 q hq with h | h
          · exact hb' h
          · exact hby h
      · refine ⟨some ⟨b', o', none⟩, cap, rfl, .inr ⟨b', o', fxs, rfl, rfl, hlx, hcap, hfr', fun k y f hk hf => ?_⟩⟩
        have hkl : k < xs.length := (List.getElem?_eq_some_iff.1 hk).1
        obtain ⟨h1, h2⟩ := hel k y f (by rw [List.getElem?_append_left hkl]; exact hk) (by rw [List.getElem?_append_left (by omega)]; exact hf)
        refine ⟨_, h1.len, fun j v hj => ?_, h1.mono hMsm (fun q hq => setCells_sm (fun e => ?_))⟩
        · have hj' : (olds ++ news)[k * t.size + j]? = some v := by
            rw [List.getElem?_take] at hj
            split at hj
            · rwa [List.getElem?_drop] at hj
            · cases hj
          rw [Nat.add_assoc]; exact hat _ _ hj'
        · subst e
          exact hb' (List.mem_flatten.2 ⟨f, List.mem_of_getElem? hf, hq⟩)
      · rw [List.nodup_cons, hflat]
        exact ⟨by simp [hb', hby], hflat ▸ hnd2⟩
      · intro k hk
        rcases List.mem_cons.1 hk with rfl | hk
        · exact .inl (by simp)
        · rw [hflat] at hk
          rcases List.mem_append.1 hk with h | h
          · exact .inl (List.mem_cons_of_mem _ h)
          · exact .inr (.inl h)
      · intro k _ hk
        exact setCells_ne b' _ _ _ k (fun e => hk (e ▸ by simp))
  · have hMsm : ∀ m k, M m k → M m k ∧ Sm w w' k := fun m k hk => ⟨hk, .of_heap (hg.heap k (hMs m k hk))⟩
    have hnew : ∀ j, (w'.cell? ⟨w.heap.size, j, none⟩) = cells[j]? ∧ w'.frozen? ⟨w.heap.size, j, none⟩ = false := fun j => by
      simp [World.cell?, World.frozen?, hh]
    refine ⟨_, w', w.heap.size :: (fxs ++ fys).flatten, hr, ?_, hx.mono hMsm (fun k hk => .of_heap (hg.heap k (hfs k hk))), ?_, ?_, hg.size, hg.os, hg.tape, hg.output, fun k hk _ => hg.heap k hk, fun m k hk => (hMsm m k hk).2, fun k hk => .of_heap (hg.heap k (hys k hk))⟩
    · refine ⟨some ⟨w.heap.size, 0, none⟩, cap', by simp, .inr ⟨w.heap.size, 0, fxs ++ fys, rfl, rfl, by simp [hlx, hly], by simpa using hge, fun j _ h2 => ?_, fun k y f hk hf => ?_⟩⟩
      · rw [(hnew j).1, (hnew j).2]
        exact ⟨by simp; omega, rfl⟩
      · obtain ⟨h1, h2⟩ := hel k y f hk hf
        refine ⟨_, h1.len, fun j v hj => ?_, h1.mono hMsm (fun q hq => .of_heap (hg.heap q ?_))⟩
        · rw [(hnew _).1]
          have hj' : (olds ++ news)[k * t.size + j]? = some v := by
            rw [List.getElem?_take] at hj
            split at hj
            · rwa [List.getElem?_drop] at hj
            · cases hj
          rw [Nat.zero_add]; exact hcl _ _ hj'
        · rcases h2 q hq with h | h
          · exact hfs q (hfx1 q h)
          · exact hys q h
    · rw [List.nodup_cons]
      refine ⟨fun h => ?_, hnd2⟩
      rw [hflat] at h
      rcases List.mem_append.1 h with h | h
      · have := hfs _ (hfx1 _ h); omega
      · have := hys _ h; omega
    · intro k hk
      rcases List.mem_cons.1 hk with rfl | hk
      · exact .inr (.inr ⟨Nat.le_refl _, by omega⟩)
      · rw [hflat] at hk
        rcases List.mem_append.1 hk with h | h
        · exact .inl (hfx1 k h)
        · exact .inr (.inl h)
end Go.Fw
