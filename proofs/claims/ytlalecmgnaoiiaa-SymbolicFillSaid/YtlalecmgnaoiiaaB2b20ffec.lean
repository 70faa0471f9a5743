/-
  Parts of the proof: Tw20, Ok20c: the framework (Fw), pure forms (Dn), plain laws (Pl, Th), calls of functions (Ok).
-/
import Derived.RangeFuncBox
import Derived.RangeFuncLeaves
import Derived.Shelf.Abstract
import Derived.WalkKit
import Derived.OwnWalkIn
import Derived.TacticsInMore
import Derived.LoopNIn
import Derived.LoopIn
import Derived.Maps.AppendAt
import Derived.Shelf.Slices.CompactI
import Derived.Lib.OwnBridge
import Derived.Test.YtlalecmgnaoiiaaProg
import Derived.KernelRfl
import Derived.Test.YtlalecmgnaoiiaaB3004b15d

set_option linter.all false
section
set_option linter.all false
namespace Go.Proofs
open Go.RowKit Go.Shelf Go.Sort
attribute [local go_sem] Oper.semAt_some
/-- The numbers of the library's text of slices.Compact, in this program. -/
def Try.laysCompact_ren : Go.Shelf.Ren := ⟨fun | 20 => 73 | n => n, fun | 22 => 23 | 3 => 3 | 4 => 4 | 0 => 0 | n => n, fun | n => n⟩
theorem Try.laysCompact : Lays2.n20 Try.prog Try.laysCompact_ren where
  mixed := by kernel_rfl
  f20 := Try.func73.trans (congrArg some (by kernel_rfl))
  t0 := Try.underlying0
  a0 := Try.isAgg0
  z0 := Try.sizeOf0
  v0 := Try.zeroValue0
  t3 := Try.underlying3
  a3 := Try.isAgg3
  z3 := Try.sizeOf3
  v3 := Try.zeroValue3
  t4 := Try.underlying4
  a4 := Try.isAgg4
  z4 := Try.sizeOf4
  v4 := Try.zeroValue4
  t22 := Try.underlying23
  a22 := Try.isAgg23
  z22 := Try.sizeOf23
  v22 := Try.zeroValue23
  i3 := by kernel_rfl
namespace Tw
def upto {α : Type} (f : Nat → α) (k : Nat) : List α := (List.range k).map f
theorem upto_succ {α : Type} (f : Nat → α) (k : Nat) : upto f (k + 1) = upto f k ++ [f k] := by simp [upto, List.range_succ]
theorem upto_length {α : Type} (f : Nat → α) (k : Nat) : (upto f k).length = k := by simp [upto]
theorem upto_all (zs : List Int) : upto (fun j => zs[j]?.getD 0) zs.length = zs := by
  apply List.ext_getElem
  · simp [upto]
  · intro i h1 h2
    simp [upto, h2]
set_option maxRecDepth 100000 in
set_option maxHeartbeats 2000000 in
theorem valuesA_in (F : Fence) (n : Nat) (h7 : F.fn 80) (hro : F.round = none) (hn : 1 ≤ n) (l Bs n₀ b off len cap : Nat) (zs : List Int) (hreach : len * 8 ≤ 140737488351232) (hb : b < n₀) (J Jx : List Int → World → Prop)
    (hY : ∀ pre x W, J pre W → pre.length < len → YieldAt F (n - 1) Try.prog l #[.int .i64 x] W fun e W' =>
      (e = .returned (.bool true) ∧ J (pre ++ [x]) W' ∧ Below n₀ W W') ∨ (e = .returned (.bool false) ∧ Jx (pre ++ [x]) W'))
    (W : World) (hBs : W.cell? ⟨Bs, 0, none⟩ = some (.slice (some ⟨b, off, none⟩) len cap)) (hc : ∀ j, j < len → W.cell? ⟨b, off + j, none⟩ = some (.int .i64 (zs[j]?.getD 0))) (h0 : J [] W) :
    CallsIn F n Try.prog 80 #[.func (.yield l) #[] #[], .pointer (some ⟨Bs, 0, none⟩)] W fun e W' => (∃ v, e = .returned v) ∧
      ((∃ ys, ys = upto (fun j => zs[j]?.getD 0) len ∧ J ys W') ∨ (∃ pre, (∃ k, k ≤ len ∧ pre = upto (fun j => zs[j]?.getD 0) k) ∧ Jx pre W')) := by
  refine callsIn_of_wp Try.func80 rfl h7 ?_ hro
  simp only [Try.ntmps80, List.size_toArray, List.length_cons, List.length_nil, Nat.reduceAdd, Nat.reduceSub, Array.replicate_succ, Array.replicate_zero, List.push_toArray, List.append_toArray, List.nil_append, List.cons_append]
  gi_wp2
  gi_loopw [7] (fun i wr => ∃ k : Nat, k ≤ len ∧ i = .int .i64 k ∧ J (upto (fun j => zs[j]?.getD 0) k) wr ∧ Below n₀ W wr)
    (fun i _ => len - (intOf i).toNat)
  case atStart => exact ⟨0, Nat.zero_le _, rfl, h0, Below.refl _ _⟩
  case round =>
    obtain ⟨k, hk, rfl, hJs, hnx⟩ := hrel
    have hcx : k < len → wr.cell? ⟨b, off + k, none⟩ = some (.int .i64 (zs[k]?.getD 0)) := fun h => (hnx.cell (p := ⟨b, off + k, none⟩) hb).trans (hc k h)
    by_cases hlt : k < len
    · obtain ⟨fn, tmps, assign, body, hy, hR⟩ := hY _ (zs[k]?.getD 0) wr hJs (by rw [upto_length]; exact hlt)
      have hcx' := hcx hlt
      gi_wp2
      refine hR.mono ?_
      rintro e W3 (⟨rfl, hJ3, hk3⟩ | ⟨rfl, hJx3⟩)
      · gi_wp2
        go_roundw
        case rel => exact ⟨k + 1, by omega, by simp, by rw [upto_succ]; exact hJ3, hnx.trans hk3⟩
        case measure => simp [intOf]; omega
      · gi_wp2
        refine bodyPost_ret (results_none rfl _ _ _) rfl ?_
        exact ⟨⟨_, rfl⟩, .inr ⟨_, ⟨k + 1, by omega, (upto_succ _ _).symm⟩, hJx3⟩⟩
    · obtain rfl : k = len := by omega
      gi_wp2
      go_end0
      exact ⟨⟨_, rfl⟩, .inl ⟨_, rfl, hJs⟩⟩
theorem upto_take (zs : List Int) {k : Nat} (hk : k ≤ zs.length) : upto (fun j => zs[j]?.getD 0) k = zs.take k := by
  apply List.ext_getElem
  · simp [upto, hk]
  · intro i h1 h2
    have : i < zs.length := by simp [upto] at h1; omega
    simp [upto, this]
/-- The slice value holds these integers, in a block below n₀; or it holds none. -/
def Ints (n₀ : Nat) (W : World) (sv : Value) (zs : List Int) : Prop :=
  (∃ a cap, sv = .slice a 0 cap ∧ zs = []) ∨ ∃ b off cap, sv = .slice (some ⟨b, off, none⟩) zs.length cap ∧ b < n₀ ∧ ∀ j, j < zs.length → W.cell? ⟨b, off + j, none⟩ = some (.int .i64 (zs[j]?.getD 0))
theorem Ints.below {n₀ : Nat} {A B : World} (h : Below n₀ A B) {sv : Value} {zs : List Int} : Ints n₀ A sv zs → Ints n₀ B sv zs
  | .inl e => .inl e
  | .inr ⟨b, off, cap, e, hb, hc⟩ => .inr ⟨b, off, cap, e, hb, fun j hj => (h.cell (p := ⟨b, off + j, none⟩) hb).trans (hc j hj)⟩
set_option maxRecDepth 100000 in
set_option maxHeartbeats 1000000 in
theorem valuesA_nil_in (F : Fence) (n : Nat) (h7 : F.fn 80) (hro : F.round = none) (l Bs : Nat) (a : Option Addr) (cap : Nat) (J : List Int → World → Prop) (W : World) (hBs : W.cell? ⟨Bs, 0, none⟩ = some (.slice a 0 cap)) (h0 : J [] W) :
    CallsIn F n Try.prog 80 #[.func (.yield l) #[] #[], .pointer (some ⟨Bs, 0, none⟩)] W fun e W' => (∃ v, e = .returned v) ∧ J [] W' := by
  refine callsIn_of_wp Try.func80 rfl h7 ?_ hro
  simp only [Try.ntmps80, List.size_toArray, List.length_cons, List.length_nil, Nat.reduceAdd, Nat.reduceSub, Array.replicate_succ, Array.replicate_zero, List.push_toArray, List.append_toArray, List.nil_append, List.cons_append]
  gi_wp2
  gi_loopw [7] (fun i wr => i = .int .i64 0 ∧ J [] wr) (fun _ _ => 0)
  case atStart => exact ⟨rfl, h0⟩
  case round =>
    obtain ⟨rfl, hJs⟩ := hrel
    gi_wp2
    go_end0
    exact ⟨⟨_, rfl⟩, hJs⟩
set_option maxHeartbeats 1000000 in
theorem values_in (F : Fence) (n : Nat) (h5 : F.fn 75) (hro : F.round = none) (a : Option Addr) (len cap : Nat) (w : World) :
    CallsIn F n Try.prog 75 #[.slice a len cap] w fun e w' => e = .returned (.func (.func 80) #[] #[.pointer (some ⟨w.heap.size, 0, none⟩)]) ∧ w' = w.alloc (.cells #[.slice a len cap] 23) := by
  refine callsIn_of_wp Try.func75 rfl h5 ?_ hro
  simp only [Try.ntmps75, List.size_toArray, List.length_cons, List.length_nil, Nat.reduceAdd, Nat.reduceSub, Array.replicate_succ, Array.replicate_zero, List.push_toArray, List.append_toArray, List.nil_append, List.cons_append]
  gi_wp2
  go_ret
  exact ⟨rfl, rfl⟩
theorem values_stops (F : Fence) (n : Nat) (h7 : F.fn 80) (hro : F.round = none) (hn : 1 ≤ n) (Bs n₀ : Nat) (sv : Value) (zs : List Int) (hreach : zs.length * 8 ≤ 140737488351232) (w : World) (hBs : Bs < w.heap.size) (hn₀ : n₀ ≤ w.heap.size)
    (hc : w.cell? ⟨Bs, 0, none⟩ = some sv) (hI : Ints n₀ w sv zs) :
    SeqStopsK F n Try.prog 80 #[.pointer (some ⟨Bs, 0, none⟩)] (fun x : Int => #[Value.int .i64 x]) (Below n₀) (fun ys => ys = zs) (fun pre => pre <+: zs) zs.length w := fun l J Jx W hW _ _ hY h0 => by
  have hc' := (hW.cell (p := ⟨Bs, 0, none⟩) hBs).trans hc
  rcases hI.below (hW.mono hn₀) with ⟨a, cap, rfl, rfl⟩ | ⟨b, off, cap, rfl, hb, hcs⟩
  · exact (valuesA_nil_in F n h7 hro l Bs a cap J W hc' h0).mono fun e W' ⟨he, hj⟩ => ⟨he, .inl ⟨_, rfl, hj⟩⟩
  · refine (valuesA_in F n h7 hro hn l Bs n₀ b off zs.length cap zs hreach hb J Jx hY W hc' hcs h0).mono ?_
    rintro e W' ⟨he, ⟨ys, rfl, hj⟩ | ⟨pre, ⟨k, hk, rfl⟩, hj⟩⟩
    · exact ⟨he, .inl ⟨_, upto_all zs, hj⟩⟩
    · exact ⟨he, .inr ⟨_, by rw [upto_take zs hk]; exact List.take_prefix _ _, hj⟩⟩
theorem info3 : (Try.prog.info? 3).map (fun i => (i.zero, i.size, i.bytes)) = some (some (.int .i64 0), 1, 8) := by kernel_rfl
set_option maxRecDepth 100000 in
set_option maxHeartbeats 2000000 in
/-- slices.AppendSeq(nil, slices.Values(zs)): a slice of the call's own that holds zs. -/
theorem appendSeq_in (F : Fence) (n : Nat) (h3 : F.fn 82) (h5 : F.fn 80) (hro : F.round = none) (hn : 3 ≤ n) (Bs : Nat) (sv : Value) (zs : List Int) (hreach : zs.length * 8 ≤ 140737488351232) (w : World) (hBs : Bs < w.heap.size)
    (hc : w.cell? ⟨Bs, 0, none⟩ = some sv) (hI : Ints w.heap.size w sv zs) :
    CallsIn F n Try.prog 82 #[.slice none 0 0, .func (.func 80) #[] #[.pointer (some ⟨Bs, 0, none⟩)]] w fun e W' => ∃ v, e = .returned v ∧ W'.ownsRow w.heap.size 3 1 v zs.length (zs.map (Value.int .i64)) ∧ (v = .slice none 0 0 ↔ zs = []) ∧ Below w.heap.size w W' := by
  have h1 : 1 ≤ n := by omega
  obtain ⟨i0, hi, hz0, hz1, hz2⟩ := info_parts info3
  refine callsIn_of_wp_marks Try.func82 rfl h3 ?_ hro
  simp only [Try.ntmps82, List.size_toArray, List.length_cons, List.length_nil, Nat.reduceAdd, Nat.reduceSub, Array.replicate_succ, Array.replicate_zero, List.push_toArray, List.append_toArray, List.nil_append, List.cons_append]
  gi_wp2
  have bO := Boxed.new w 23 (.slice none 0 0)
  have hB0 : Below w.heap.size w (w.alloc (.cells #[.slice none 0 0] 23)) := (Below.refl _ w).alloc (Nat.le_refl _) _
  refine wpIn_rangeFunc_ownG hro h1 (gf := 80) (lb := #[.pointer (some ⟨Bs, 0, none⟩)]) rfl h5 (enters_of Try.func80 (by kernel_rfl) rfl)
    (values_stops F (n - 1) h5 hro (by omega) Bs w.heap.size sv zs hreach _ (by simp; omega) (by simp) ((hB0.cell (p := ⟨Bs, 0, none⟩) hBs).trans hc) (hI.below hB0)) belowK_t (belowK_b (by simp)) (Below.refl _ _) (fun _ => rfl)
    (fun pre W => (∃ v, Boxed W w.heap.size 23 v ∧ W.ownsRow w.heap.size 3 1 v pre.length (pre.map (Value.int .i64)) ∧ (v = .slice none 0 0 ↔ pre = [])) ∧ Below w.heap.size w W)
    (fun _ _ _ => False)
    (OwnFrom.and (Own.from (holdsRow_own w.heap.size w.heap.size 23 3 1 (fun pre => pre.length) (fun pre => pre.map (Value.int .i64)) (fun pre v => v = .slice none 0 0 ↔ pre = [])) _) (ownFrom_below (Nat.le_refl _) (by simp)))
    (fun _ _ _ _ _ hs _ _ => hs)
    ⟨⟨_, bO, World.ownsRow_nil _ _ _ _, by simp⟩, hB0⟩
    (fun x => { tmps := #[.slice none 0 0, .func (.func 80) #[] #[.pointer (some ⟨Bs, 0, none⟩)], .pointer (some ⟨w.heap.size, 0, none⟩), undef, .slice none 0 0, .int .i64 x, .func (.func 80) #[] #[.pointer (some ⟨Bs, 0, none⟩)], .int .i64 x, undef, undef, undef, undef, undef], defers := [] }) ?assign ?body ?done ?stop
  case assign =>
    intro l x W K hK
    gi_wp2
    exact hK
  case body =>
    rintro l pre x W ⟨⟨v, hv, hrow, hnil⟩, hB⟩ hlt
    have hc := hv.cell
    have hlen : zs.length ≤ maxLen := by simp only [maxLen]; omega
    have hbytes : zs.length * 8 ≤ 140737488355328 := by omega
    gi_wp2_with (gi_at_builtin; refine wpListIn_append_own _ rfl _ _ 23 rfl w.heap.size 3 i0 (.int .i64 0) 1 8 Try.underlying23 hi hz0 hz1 hz2 rfl (by decide) _ _ _ rfl (hrow.alloc _) ⟨W.heap.size, 0, none⟩ 1 1 [.int .i64 x] rfl rfl (cell_one_new _ _ _) (by simp [Value.oneCell']) (by omega) (by omega) (by have := hB.size; simp; omega) ?_; intro v' w1 hown' hgrow _; obtain ⟨g', cap', rfl⟩ := ownsRow_succ hown'; obtain ⟨hv1, hv2, hr2, hk2, hb2⟩ := hv.appended (by decide) hrow hB.size (Nat.le_refl _) hown' hgrow; have hc1 := hv1.cell; have hf1 := hv1.frozen)
    exact ⟨hk2.from _, hb2, ⟨_, hv2, by simpa using hr2, by simp⟩, hB.trans hb2⟩
  case done =>
    rintro D ys W hD rfl ⟨⟨v, hv, hrow, hnil⟩, hB⟩ hK
    have hc := hv.cell
    gi_wp2
    refine ⟨by simp, .inl ⟨_, _, rfl, run_takeDeferred hK, ?_⟩⟩
    exact ⟨_, results_tmp rfl _ _ _, v, rfl, ownsRow_putObj hrow _ hK rfl, hnil, hB.trans (belowK_b (w := w) (Nat.le_refl _) W D _ _ (by simp at hD; omega) hK rfl rfl)⟩
  case stop =>
    rintro D c pre W _ _ h _
    exact h.elim
set_option maxHeartbeats 1000000 in
theorem collect_in (F : Fence) (n : Nat) (h8 : F.fn 78) (h3 : F.fn 82) (h5 : F.fn 80) (hro : F.round = none) (hn : 4 ≤ n) (Bs : Nat) (sv : Value) (zs : List Int) (hreach : zs.length * 8 ≤ 140737488351232) (w : World) (hBs : Bs < w.heap.size)
    (hc : w.cell? ⟨Bs, 0, none⟩ = some sv) (hI : Ints w.heap.size w sv zs) :
    CallsIn F n Try.prog 78 #[.func (.func 80) #[] #[.pointer (some ⟨Bs, 0, none⟩)]] w fun e W' => ∃ v, e = .returned v ∧ W'.ownsRow w.heap.size 3 1 v zs.length (zs.map (Value.int .i64)) ∧ (v = .slice none 0 0 ↔ zs = []) ∧ Below w.heap.size w W' := by
  have h1 : 1 ≤ n := by omega
  refine callsIn_of_wp Try.func78 rfl h8 ?_ hro
  simp only [Try.ntmps78, List.size_toArray, List.length_cons, List.length_nil, Nat.reduceAdd, Nat.reduceSub, Array.replicate_succ, Array.replicate_zero, List.push_toArray, List.append_toArray, List.nil_append, List.cons_append]
  gi_wp2_with (gi_at_call 82; refine (appendSeq_in F (n - 1) h3 h5 hro (by omega) Bs sv zs hreach _ hBs hc hI).mono ?_; rintro e w' ⟨v, rfl, hrow, hnil, hb⟩)
  go_ret
  exact ⟨v, rfl, hrow, hnil, hb⟩
open Go.Fw
/-- A slice of the call's own, as the framework says it. -/
theorem rep_of_own {M : Md → Nat → Prop} {w : World} {base : Nat} {v : Value} {zs : List Int} (h : w.ownsRow base 3 1 v zs.length (zs.map (Value.int .i64))) : ∃ f, Rep M w (.osl (.int .i64)) [v] zs f ∧ f.Nodup ∧ ∀ b ∈ f, base ≤ b ∧ b < w.heap.size := by
  rcases h.2 with ⟨rfl, h0⟩ | ⟨g, cap, cur, rfl, hb, hg, h1, h2, h3, h4⟩
  · obtain rfl := List.eq_nil_of_length_eq_zero h0
    exact ⟨[], ⟨none, 0, rfl, .inl ⟨rfl, rfl, rfl, rfl⟩⟩, by simp, by simp⟩
  · rw [Nat.mul_one] at h3 h4
    have hcell : ∀ j, j < cap → w.cell? ⟨g, j, none⟩ = some (cur[j]?.getD undef) ∧ w.frozen? ⟨g, j, none⟩ = false := fun j hj => by
      constructor <;> simp [World.cell?, World.frozen?, hg, show j < cur.size by omega]
    refine ⟨[g], ⟨some ⟨g, 0, none⟩, cap, rfl, .inr ⟨g, 0, List.replicate zs.length [], rfl, by simp, by simp, h1, fun j _ hj => ?_, fun i x f hx hf => ?_⟩⟩, by simp, fun b hb' => ?_⟩
    · obtain ⟨q1, q2⟩ := hcell j (by simpa [Ty.size] using hj)
      exact ⟨by rw [q1]; rfl, q2⟩
    · have hi : i < zs.length := (List.getElem?_eq_some_iff.1 hx).1
      obtain rfl : f = [] := by
        rw [List.getElem?_replicate] at hf
        split at hf <;> simp_all
      refine ⟨[.int .i64 x], rfl, fun j v hj => ?_, rfl, rfl⟩
      cases j with
      | succ j => simp at hj
      | zero =>
        simp only [List.getElem?_cons_zero, Option.some.injEq] at hj
        subst hj
        simp only [Ty.size, Nat.mul_one, Nat.zero_add, Nat.add_zero]
        rw [(hcell i (by omega)).1]
        have : (cur.toList.take zs.length)[i]? = (zs.map (Value.int .i64))[i]? := by rw [h4]
        rw [List.getElem?_take_of_lt hi, Array.getElem?_toList, List.getElem?_map, hx] at this
        rw [this]; rfl
    · simp only [List.mem_singleton] at hb'
      subst hb'
      exact ⟨hb, (Array.getElem?_eq_some_iff.1 hg).1⟩
/-- .. and what the library's contracts ask. -/
theorem holds_of_rep {M : Md → Nat → Prop} {w : World} {v : Value} {zs : List Int} {f : List Nat} (h : Rep M w (.osl (.int .i64)) [v] zs f) :
    (∃ a cap, v = .slice a 0 cap ∧ zs = []) ∨ ∃ b o cap, v = .slice (some ⟨b, o, none⟩) zs.length cap ∧ zs.length ≤ cap ∧ Holds (Value.int .i64) w b o zs.toArray ∧ f = [b] := by
  obtain ⟨a, cap, hv, h⟩ := h
  simp only [List.cons.injEq, and_true] at hv
  subst hv
  rcases h with ⟨rfl, rfl, rfl, rfl⟩ | ⟨b, o, fps, rfl, rfl, h1, h2, h3, h4⟩
  · exact .inl ⟨none, 0, rfl, rfl⟩
  · right
    have hfp : fps.flatten = [] := by
      rw [List.flatten_eq_nil_iff]
      intro l hl
      obtain ⟨i, hi, rfl⟩ := List.mem_iff_getElem.1 hl
      obtain ⟨ds, _, _, hr⟩ := h4 i (zs[i]'(by omega)) fps[i] (by simp) (by simp)
      exact hr.1
    refine ⟨b, o, cap, rfl, h2, fun j hj => ?_, by rw [hfp]⟩
    have hj' : j < zs.length := by simpa using hj
    obtain ⟨ds, d1, d2, _, d3⟩ := h4 j zs[j] (fps[j]'(by omega)) (by simp) (by simp)
    subst d3
    have q1 := d2 0 _ rfl
    simp only [Ty.size, Nat.mul_one, Nat.add_zero] at q1
    exact ⟨by rw [q1]; simp [hj'], (h3 (o + j) (by omega) (by simp only [Ty.size]; omega)).2⟩
/-- What slices.Sort is asked: that it is a function of what the slice holds. -/
def SortOk (E : Env) (sort : List Int → Option (List Int)) : Prop := ∀ zs ys, sort zs = some ys → CallOk E 79 [.m ⟨.osl (.int .i64), zs⟩ ys] []
set_option maxRecDepth 100000 in
set_option maxHeartbeats 2000000 in
theorem sorted_in (F : Fence) (hall : ∀ f, F.fn f) (hro : F.round = none) (hcv : ∀ (m : Nat) (f : FuncId) (args : Array Value) (w : World) (R : Ending → World → Prop), Calls Try.prog f args w R → CallsIn F m Try.prog f args w R) {E : Env} (hE : E.P = Try.prog) {sort : List Int → Option (List Int)} (hs : SortOk E sort) (n : Nat) (hn : 5 ≤ n) (Bs : Nat) (sv : Value) (zs ys : List Int) (hys : sort zs = some ys) (hreach : zs.length * 8 ≤ 140737488351232) (w : World) (hBs : Bs < w.heap.size)
    (hc : w.cell? ⟨Bs, 0, none⟩ = some sv) (hI : Ints w.heap.size w sv zs) :
    CallsIn F n Try.prog 74 #[.func (.func 80) #[] #[.pointer (some ⟨Bs, 0, none⟩)]] w fun e W' => ∃ v f M, e = .returned v ∧ Rep M W' (.osl (.int .i64)) [v] ys f ∧ (∀ b ∈ f, w.heap.size ≤ b) ∧ Below w.heap.size w W' := by
  have h1 : 1 ≤ n := by omega
  have hq1 := hall 78
  have hq2 := hall 79
  refine callsIn_of_wp Try.func74 rfl (hall _) ?_ hro
  simp only [Try.ntmps74, List.size_toArray, List.length_cons, List.length_nil, Nat.reduceAdd, Nat.reduceSub, Array.replicate_succ, Array.replicate_zero, List.push_toArray, List.append_toArray, List.nil_append, List.cons_append]
  gi_wp2_with (first
    | (gi_at_call 78; refine (collect_in F (n - 1) (hall _) (hall _) (hall _) hro (by omega) Bs sv zs hreach _ hBs hc hI).mono ?_; rintro e W ⟨v, rfl, hrow, hnil, hb⟩
       obtain ⟨f, hr, hnd, hf⟩ := rep_of_own (M := md (fun _ => False) (fun _ => False)) hrow
       have hcall := hs zs ys hys W (fun _ => False) (fun _ => False) [v] [f] (fun b h => by rcases h with h | h <;> exact h.elim) ⟨⟨[v], rfl, hr⟩, trivial⟩ (by simpa using hnd) (fun b hb => ⟨fun h => h, fun h => h, (hf b (by simpa using hb)).2⟩)
       rw [hE] at hcall
       have hcall := hcv (n - 1) _ _ _ _ hcall
       clear hrow hnil)
    | (gi_at_call 79; refine hcall.mono ?_; rintro e W2 ⟨I', gs, hs2, rv, rfl, hp⟩))
  have hg : ∃ g, gs = [g] := by
    have := hp.args
    match gs, this with
    | [g], _ => exact ⟨g, rfl⟩
    | [], h => exact h.elim
    | _ :: _ :: _, h => exact h.2.elim
  obtain ⟨g, rfl⟩ := hg
  obtain ⟨cs, e1, hr2⟩ := hp.args.1
  have hl2 := hr2.len
  obtain ⟨c, rfl⟩ := List.length_eq_one_iff.1 hl2
  have e1 : v = c := e1
  subst e1
  have hrv : rv = [] := by
    have := hp.res
    match rv, this with
    | [], _ => rfl
    | _ :: _, h => exact h.elim
  subst hrv
  go_ret
  refine ⟨v, g, _, rfl, hr2, fun b hb' => ?_, ?_⟩
  · have := (hp.bl b (by simp [hb'])).2.2.2
    rcases this with h | h
    · exact Nat.le_trans hb.size h
    · exact (hf b (by simpa using h)).1
  · exact ⟨hp.os.trans hb.os, hp.tape.trans hb.tape, hp.output.trans hb.output, Nat.le_trans hb.size hp.size, fun k hk => (hp.heap k (Nat.lt_of_lt_of_le hk hb.size) (fun h => by have := (hf k (by simpa using h)).1; omega)).trans (hb.block k hk)⟩
theorem compact_of_rep {M : Md → Nat → Prop} {W : World} {B : Nat} {v : Value} {ys : List Int} {f : List Nat} (hr : Rep M W (.osl (.int .i64)) [v] ys f) (hf : ∀ b ∈ f, B ≤ b) (hl : ys.length ≤ 1000000) :
    Calls Try.prog 73 #[v] W (fun e w' => ∃ a cap, e = .returned (.slice a (Lib.compact ys).length cap) ∧ Below B W w') := by
  rcases holds_of_rep hr with ⟨a, cap, rfl, rfl⟩ | ⟨b, o, cap, rfl, hcap, hH, rfl⟩
  · refine (Any.slices_Compact_int_empty Try.laysCompact a cap W).mono ?_
    rintro e w' ⟨rfl, rfl⟩
    exact ⟨a, cap, rfl, Below.refl _ _⟩
  · refine (Any.slices_Compact_int Try.laysCompact b o cap ys W hH (by omega) hcap).mono ?_
    rintro e w' ⟨rfl, q, rfl⟩
    refine ⟨_, cap, rfl, rfl, rfl, rfl, by simp [putRow, mapBlock, Sort.ahead], fun k hk => ?_⟩
    have := hf b (by simp)
    simp [putRow, mapBlock, Sort.ahead, Array.getElem?_modify, show b ≠ k by omega]
set_option maxRecDepth 100000 in
set_option maxHeartbeats 2000000 in
theorem twice_in (F : Fence) (hall : ∀ f, F.fn f) (hro : F.round = none) (hcv : ∀ (m : Nat) (f : FuncId) (args : Array Value) (w : World) (R : Ending → World → Prop), Calls Try.prog f args w R → CallsIn F m Try.prog f args w R) {E : Env}
    (hE : E.P = Try.prog) {sort : List Int → Option (List Int)} (hs : SortOk E sort) (n : Nat) (hn : 7 ≤ n) (a : Option Addr) (len cap : Nat) (zs ys : List Int) (hys : sort zs = some ys) (hlen : zs.length = len) (hreach : zs.length ≤ 1000000) (hy : ys.length ≤ 1000000) (w : World) (hI : Ints w.heap.size w (.slice a len cap) zs) :
    CallsIn F n Try.prog 65 #[.slice a len cap] w fun e W' => e = .returned (.bool (decide ((Lib.compact ys).length < zs.length))) ∧ Below w.heap.size w W' := by
  have h1 : 1 ≤ n := by omega
  have hq1 := hall 75
  have hq2 := hall 74
  have hq3 := hall 73
  generalize hcl : (Lib.compact ys).length = cl
  refine callsIn_of_wp Try.func65 rfl (hall _) ?_ hro
  simp only [Try.ntmps65, List.size_toArray, List.length_cons, List.length_nil, Nat.reduceAdd, Nat.reduceSub, Array.replicate_succ, Array.replicate_zero, List.push_toArray, List.append_toArray, List.nil_append, List.cons_append]
  have bO := Boxed.new w 23 (.slice a len cap)
  have hB0 : Below w.heap.size w (w.alloc (.cells #[.slice a len cap] 23)) := (Below.refl _ w).alloc (Nat.le_refl _) _
  have hI0 : Ints (w.alloc (.cells #[.slice a len cap] 23)).heap.size (w.alloc (.cells #[.slice a len cap] 23)) (.slice a len cap) zs := by
    rcases hI.below hB0 with h | ⟨b, off, cap', e, hb, hc⟩
    · exact .inl h
    · exact .inr ⟨b, off, cap', e, by simp; omega, hc⟩
  have hsorted := sorted_in F hall hro hcv hE hs (n - 1) (by omega) w.heap.size (.slice a len cap) zs ys hys (by omega) _ (by simp) bO.cell hI0
  gi_wp2_with (first
    | (gi_at_call 75; refine (values_in F (n - 1) (hall _) hro a len cap w).mono ?_; rintro e w' ⟨rfl, rfl⟩)
    | (gi_at_call 74; refine hsorted.mono ?_; rintro e W ⟨v, f, M, rfl, hr, hf, hb⟩; have hcomp := hcv (n - 1) _ _ _ _ (compact_of_rep (B := w.heap.size) hr (fun b hb' => by have := hf b hb'; simp at this; omega) hy); rw [hcl] at hcomp; have X : Below w.heap.size w W := hB0.trans (hb.mono (by simp)); clear hr hf hb hsorted)
    | (gi_at_call 73; refine hcomp.mono ?_; rintro e W2 ⟨a2, cap2, rfl, hb2⟩))
  go_ret
  exact ⟨by rw [hlen]; rfl, X.trans hb2⟩
/-- graph.twice, as the framework says it. -/
noncomputable def twFun (sort : List Int → Option (List Int)) : Fun := ⟨65, [.v (.slc .bor (.int .i64))], [.bool], fun a => (twSem sort a.1).map fun b => (b, ())⟩
theorem tw_ok {E : Env} (hE : E.P = Try.prog) {sort : List Int → Option (List Int)} (hs : SortOk E sort) : OkFun E (twFun sort) := by
  refine ⟨fun vs w => by rw [hE]; exact Try.call65 vs w, ?_⟩
  rintro ⟨zs, _⟩ b hb
  have hb2 : (twSem sort zs).map (fun b => (b, ())) = some b := hb
  obtain ⟨b0, hb0, rfl⟩ := Option.map_eq_some_iff.1 hb2
  clear hb hb2
  unfold twSem at hb0
  cases h1 : Nat.ble zs.length 1000000 with
  | false => rw [h1] at hb0; cases hb0
  | true =>
  rw [h1] at hb0
  obtain ⟨ys, hys, hb0⟩ := Option.bind_eq_some_iff.1 hb0
  cases h2 : Nat.ble ys.length 1000000 with
  | false => rw [h2] at hb0; cases hb0
  | true =>
  rw [h2] at hb0
  have hb : decide ((Lib.compact ys).length < zs.length) = b0 := Option.some.inj hb0
  subst hb
  have h1 := Nat.le_of_ble_eq_true h1
  have h2 := Nat.le_of_ble_eq_true h2
  rintro w I B vs fs hIB hargs hnd hfs
  have hargs : all3 (ArgH I B w) [.v ⟨.slc .bor (.int .i64), zs⟩] vs fs := hargs
  obtain ⟨v, f, rfl, rfl⟩ : ∃ v f, vs = [v] ∧ fs = [f] := by
    cases vs with
    | nil => exact hargs.elim
    | cons v vs =>
      cases fs with
      | nil => exact hargs.elim
      | cons f fs =>
        have h := hargs.2
        cases vs with
        | nil => cases fs with
          | nil => exact ⟨v, f, rfl, rfl⟩
          | cons => exact h.elim
        | cons => exact h.elim
  obtain ⟨⟨rfl, cs, rfl, hr⟩, _⟩ := hargs
  obtain ⟨_, a, cap, rfl, hcap, hnil, hel⟩ := hr
  have hI : Ints w.heap.size w (.slice a zs.length cap) zs := by
    rcases hel with h | ⟨b, o, rfl, hM, hx⟩
    · exact .inl ⟨a, cap, by rw [show zs = [] from h]; rfl, h⟩
    · refine .inr ⟨b, o, cap, rfl, hIB b hM, fun j hj => ?_⟩
      obtain ⟨ds, d1, d2, _, d3⟩ := hx j zs[j] (by simp [hj])
      subst d3
      have q := d2 0 _ rfl
      simp only [Ty.size, Nat.mul_one, Nat.add_zero] at q
      rw [q]; simp [hj]
  have h := twice_in Fence.wide (fun _ => trivial) rfl (fun m f args w R h => (callsIn_wide (n := m)).2 h) hE hs 10 (by omega) a zs.length cap zs ys hys rfl h1 h2 w hI
  have h := callsIn_wide.1 h
  show Calls E.P 65 #[.slice a zs.length cap] w _
  rw [hE]
  refine h.mono ?_
  rintro e w' ⟨rfl, hb⟩
  refine ⟨I, [[]], [[]], [.bool _], rfl, ⟨⟨rfl, trivial⟩, ⟨⟨[.bool _], rfl, rfl, rfl⟩, trivial⟩, by simp, by simp, fun _ h => h, fun _ h => .inl h, hb.size, hb.os, hb.tape, hb.output, fun b hb' _ => hb.block b hb'⟩⟩
end Tw
end Go.Proofs
end

section
namespace Go.Fw
open Go.Proofs
def tt : List (Nat × Ty) := [(3, (.int .i64)), (4, .bool), (5, (.int .u8)), (9, .str), (22, (.slc .imm (.slc .imm (.int .i64)))), (23, (.slc .imm (.int .i64))), (35, (.st (.pr (.slc .imm (.slc .imm (.int .i64))) .nil))), (58, (.slc .imm .bool)), (59, (.int .u64)), (60, (.slc .imm (.slc .imm .bool))), (69, (.st (.pr (.slc .imm (.int .i64)) (.pr (.slc .imm (.int .i64)) .nil)))), (82, (.st (.pr (.slc .imm (.slc .imm .bool)) (.pr (.slc .imm .bool) .nil)))), (86, (.slc .imm (.slc .imm .bool))), (89, (.st (.pr (.slc .imm (.slc .imm .bool)) (.pr (.slc .imm .bool) .nil)))), (111, (.int .u32)), (113, (.int .u64)), (114, (.int .u64))]
noncomputable def E : Env := ⟨Try.prog, tt, tt_ok (by kernel_rfl), by kernel_rfl⟩
/-- sparse/sparselaw20.small -/
noncomputable def F28 : Fun := ⟨28, [.v (.st (.pr (.slc .bor (.slc .bor (.int .i64))) .nil))], [.bool], d_sparselaw20q_small⟩
theorem ok28 : OkFun E F28 :=
  OkFun.of (fn := Try.f28) (rs := [.tmp 2]) ([]) [(1, (.ptr .imm (.st (.pr (.slc .bor (.slc .bor (.int .i64))) .nil))))] [] (.keep [0] (.two .none (.leaf) (.two (.xr [1] ⟨[], []⟩) (.two .none (.leaf) (.two .none (.two .none (.leaf) (.leaf)) (.leaf))) (.two .none (.two .none (.leaf) (.one (.keep [1] (.loop ⟨[(3, .v (.int .i64))], []⟩ (.xr 0 ⟨[], []⟩) (.two .none (.two .none (.leaf) (.two .none (.leaf) (.leaf))) (.two .none (.one (.two .none (.leaf) (.two .none (.two .none (.leaf) (.leaf)) (.leaf)))) (.leaf))))))) (.two .none (.leaf) (.leaf)))))) Try.func28 (by kernel_rfl) (by kernel_rfl) (by kernel_rfl) Try.call28 tbl_nil (by intro a; kernel_rfl)
/-- sparse/graph.ascending -/
noncomputable def F59 : Fun := ⟨59, [.v (.slc .bor (.int .i64)), .v (.int .i64)], [.bool], d_graph_ascending⟩
theorem ok59 : OkFun E F59 :=
  OkFun.of (fn := Try.f59) (rs := [.tmp 4]) ([]) [] [] (.keep [0, 1] (.two .none (.leaf) (.two .none (.leaf) (.two .none (.two .none (.leaf) (.one (.keep [8, 9] (.loop ⟨[(5, .v (.int .i64)), (10, .v (.int .i64))], []⟩ (.xr 0 ⟨[], []⟩) (.two .none (.leaf) (.two .none (.two .none (.leaf) (.leaf)) (.two (.xr [10] ⟨[(5, .v (.int .i64))], []⟩) (.one (.two .none (.leaf) (.two (.xr [7] ⟨[], []⟩) (.two .none (.leaf) (.two .none (.two .none (.leaf) (.leaf)) (.leaf))) (.leaf)))) (.leaf)))))))) (.two .none (.leaf) (.leaf)))))) Try.func59 (by kernel_rfl) (by kernel_rfl) (by kernel_rfl) Try.call59 tbl_nil (by intro a; kernel_rfl)
/-- cmp.isNaN[int] -/
noncomputable def F81 : Fun := ⟨81, [.v (.int .i64)], [.bool], d_cmp_isNaN_int⟩
theorem ok81 : OkFun E F81 :=
  OkFun.of (fn := Try.f81) (rs := [.tmp 2]) ([]) [] [] (.keep [0] (.two .none (.leaf) (.two .none (.leaf) (.leaf)))) Try.func81 (by kernel_rfl) (by kernel_rfl) (by kernel_rfl) Try.call81 tbl_nil (by intro a; kernel_rfl)
/-- cmp.Less[int] -/
noncomputable def F76 : Fun := ⟨76, [.v (.int .i64), .v (.int .i64)], [.bool], d_cmp_Less_int⟩
theorem ok76 : OkFun E F76 :=
  OkFun.of (fn := Try.f76) (rs := [.tmp 4]) ((81, F81) :: []) [] [] (.keep [0, 1] (.two .none (.leaf) (.two .none (.leaf) (.leaf)))) Try.func76 (by kernel_rfl) (by kernel_rfl) (by kernel_rfl) Try.call76 (tbl_cons ok81 tbl_nil) (by intro a; kernel_rfl)
/-- slices.isNaN[int] -/
noncomputable def F77 : Fun := ⟨77, [.v (.int .i64)], [.bool], d_slices_isNaN_int⟩
theorem ok77 : OkFun E F77 :=
  OkFun.of (fn := Try.f77) (rs := [.tmp 2]) ([]) [] [] (.keep [0] (.two .none (.leaf) (.two .none (.leaf) (.leaf)))) Try.func77 (by kernel_rfl) (by kernel_rfl) (by kernel_rfl) Try.call77 tbl_nil (by intro a; kernel_rfl)
/-- slices.BinarySearch[[]int,int] -/
noncomputable def F71 : Fun := ⟨71, [.v (.slc .bor (.int .i64)), .v (.int .i64)], [(.int .i64), .bool], d_slices_BinarySearch_int_int⟩
theorem ok71 : OkFun E F71 :=
  OkFun.of (fn := Try.f71) (rs := [.tmp 4, .tmp 5]) ((77, F77) :: (76, F76) :: []) [] [] (.keep [0, 1] (.two .none (.leaf) (.two .none (.leaf) (.two .none (.leaf) (.two .none (.one (.keep [6] (.loop ⟨[(7, .v (.int .i64)), (8, .v (.int .i64))], []⟩ (.x 0 ⟨[(7, .v (.int .i64))], []⟩) (.two .none (.two .none (.leaf) (.two .none (.leaf) (.leaf))) (.one (.two .none (.leaf) (.two .none (.leaf) (.two .none (.leaf) (.leaf))))))))) (.two .none (.leaf) (.leaf))))))) Try.func71 (by kernel_rfl) (by kernel_rfl) (by kernel_rfl) Try.call71 (tbl_cons ok77 (tbl_cons ok76 tbl_nil)) (by intro a; kernel_rfl)
/-- sparse/graph.joined -/
noncomputable def F60 : Fun := ⟨60, [.v (.st (.pr (.slc .bor (.slc .bor (.int .i64))) .nil)), .v (.int .i64), .v (.int .i64)], [.bool], d_graph_joined⟩
theorem ok60 : OkFun E F60 :=
  OkFun.of (fn := Try.f60) (rs := [.tmp 6]) ((71, F71) :: []) [(3, (.ptr .imm (.st (.pr (.slc .bor (.slc .bor (.int .i64))) .nil))))] [] (.keep [0, 1, 2] (.two .none (.leaf) (.two .none (.leaf) (.two .none (.leaf) (.leaf))))) Try.func60 (by kernel_rfl) (by kernel_rfl) (by kernel_rfl) Try.call60 (tbl_cons ok71 tbl_nil) (by intro a; kernel_rfl)
/-- sparse/graph.Check -/
noncomputable def F43 : Fun := ⟨43, [.v (.st (.pr (.slc .bor (.slc .bor (.int .i64))) .nil))], [(.int .i64)], d_graph_Check⟩
theorem ok43 : OkFun E F43 :=
  OkFun.of (fn := Try.f43) (rs := [.tmp 2]) ((60, F60) :: (59, F59) :: []) [(1, (.ptr .imm (.st (.pr (.slc .bor (.slc .bor (.int .i64))) .nil))))] [] (.keep [0] (.two .none (.leaf) (.two .none (.leaf) (.two .none (.two .none (.leaf) (.two .none (.two .none (.leaf) (.leaf)) (.leaf))) (.two .none (.two .none (.leaf) (.one (.keep [1, 3, 16, 17] (.loop ⟨[(18, .v (.int .i64))], []⟩ (.xr 0 ⟨[], []⟩) (.two .none (.leaf) (.two .none (.two .none (.leaf) (.leaf)) (.two (.xr [18] ⟨[], []⟩) (.one (.two .none (.leaf) (.two .none (.leaf) (.two .none (.two .none (.leaf) (.leaf)) (.leaf))))) (.leaf)))))))) (.two .none (.two .none (.leaf) (.one (.keep [1, 35, 36] (.loop ⟨[(37, .v (.int .i64))], []⟩ (.xr 2 ⟨[], []⟩) (.two .none (.leaf) (.two .none (.two .none (.leaf) (.leaf)) (.two .none (.one (.two .none (.leaf) (.two .none (.leaf) (.one (.keep [6, 37, 42, 43] (.loop ⟨[(44, .v (.int .i64))], []⟩ (.xr 4 ⟨[], []⟩) (.two .none (.leaf) (.two .none (.two .none (.leaf) (.leaf)) (.two .none (.one (.two .none (.leaf) (.two .none (.leaf) (.two .none (.two .none (.leaf) (.leaf)) (.leaf))))) (.leaf)))))))))) (.leaf)))))))) (.two .none (.leaf) (.leaf)))))))) Try.func43 (by kernel_rfl) (by kernel_rfl) (by kernel_rfl) Try.call43 (tbl_cons ok60 (tbl_cons ok59 tbl_nil)) (by intro a; kernel_rfl)
/-- sparse/etree.newForest -/
noncomputable def F44 : Fun := ⟨44, [.v (.int .i64)], [(.optr (.st (.pr (.osl (.int .i64)) (.pr (.osl (.int .i64)) .nil))))], d_etree_newForest⟩
theorem ok44 : OkFun E F44 :=
  OkFun.of (fn := Try.f44) (rs := [.tmp 2]) ([]) [(6, (.osl (.int .i64))), (8, (.osl (.int .i64)))] [] (.keep [0] (.two .none (.leaf) (.two .none (.draw [⟨0, [5], [0], [], [], []⟩, ⟨1, [6], [5, 5], [0, 0], [6], [6]⟩, ⟨2, [7], [0], [], [], []⟩, ⟨3, [8], [7, 7], [2, 2], [8], [8]⟩, ⟨4, [9], [6, 8], [1, 3], [6, 8, 9], [6, 8, 9, 500006, 500008]⟩, ⟨5, [10], [9], [4], [9, 10], [9, 10, 500009]⟩, ⟨6, [3], [10], [5, 0, 1, 2, 3, 4, 5], [3, 10], [3, 10, 500003, 500010]⟩]) (.two .none (.two .none (.leaf) (.one (.keep [11] (.loop ⟨[(3, .s (.ref 3 [])), (12, .v (.int .i64))], [(3, (.optr (.st (.pr (.osl (.int .i64)) (.pr (.osl (.int .i64)) .nil)))))]⟩ (.x 0 ⟨[(3, .s (.ref 3 []))], [(3, (.optr (.st (.pr (.osl (.int .i64)) (.pr (.osl (.int .i64)) .nil)))))]⟩) (.two .none (.leaf) (.two .none (.two .none (.leaf) (.leaf)) (.two .none (.one (.two .none (.leaf) (.draw [⟨0, [15], [3], [], [500003], []⟩, ⟨1, [16], [15], [0], [3], []⟩, ⟨2, [17], [16], [1], [3], []⟩, ⟨3, [18], [17], [2], [3], []⟩, ⟨4, [19], [4], [], [], []⟩, ⟨5, [20], [3], [], [500003], []⟩, ⟨6, [21], [20], [5], [3], []⟩, ⟨7, [22], [21], [6], [3], []⟩, ⟨8, [23], [22], [7], [3], []⟩, ⟨9, [24], [4], [], [], []⟩, ⟨10, [25], [18, 19], [3, 4, 0, 1, 2, 3, 4, 8], [3], []⟩, ⟨11, [], [25], [10, 0, 1, 2, 3, 4, 8], [3], [3]⟩, ⟨12, [26], [23, 24], [8, 9, 0, 1, 2, 3, 4, 5, 6, 7, 8, 9, 10, 11], [3], []⟩, ⟨13, [], [26], [12, 11, 0, 1, 2, 3, 4, 5, 6, 7, 8, 9, 10, 11], [3], [3]⟩]))) (.leaf)))))))) (.two .none (.leaf) (.leaf)))))) Try.func44 (by kernel_rfl) (by kernel_rfl) (by kernel_rfl) Try.call44 tbl_nil (by intro a; kernel_rfl)
/-- (*sparse/etree.forest).join -/
noncomputable def F45 : Fun := ⟨45, [.m (.optr (.st (.pr (.osl (.int .i64)) (.pr (.osl (.int .i64)) .nil)))), .v (.int .i64), .v (.int .i64)], [], d_etree_forest_join⟩
theorem ok45 : OkFun E F45 :=
  OkFun.of (fn := Try.f45) (rs := []) ([]) [] [] (.keep [2] (.one (.loop ⟨[(0, .s (.ref 0 [])), (1, .v (.int .i64))], [(0, (.optr (.st (.pr (.osl (.int .i64)) (.pr (.osl (.int .i64)) .nil)))))]⟩ (.x 0 ⟨[(0, .s (.ref 0 []))], [(0, (.optr (.st (.pr (.osl (.int .i64)) (.pr (.osl (.int .i64)) .nil)))))]⟩) (.two (.xr [1] ⟨[(0, .s (.ref 0 []))], [(0, (.optr (.st (.pr (.osl (.int .i64)) (.pr (.osl (.int .i64)) .nil)))))]⟩) (.two .none (.leaf) (.two .none (.leaf) (.leaf))) (.one (.two .none (.leaf) (.two .none (.leaf) (.two (.x [6] ⟨[(0, .s (.ref 0 []))], [(0, (.optr (.st (.pr (.osl (.int .i64)) (.pr (.osl (.int .i64)) .nil)))))]⟩) (.two .none (.leaf) (.two .none (.leaf) (.leaf))) (.leaf))))))))) Try.func45 (by kernel_rfl) (by kernel_rfl) (by kernel_rfl) Try.call45 tbl_nil (by intro a; kernel_rfl)
/-- sparse/etree.Parent -/
noncomputable def F23 : Fun := ⟨23, [.v (.st (.pr (.slc .bor (.slc .bor (.int .i64))) .nil))], [(.osl (.int .i64)), (.int .i64)], d_etree_Parent⟩
theorem ok23 : OkFun E F23 :=
  OkFun.of (fn := Try.f23) (rs := [.tmp 2, .tmp 3]) ((45, F45) :: (44, F44) :: (43, F43) :: []) [(1, (.ptr .imm (.st (.pr (.slc .bor (.slc .bor (.int .i64))) .nil)))), (2, (.osl (.int .i64)))] [] (.keep [0] (.two .none (.leaf) (.two .none (.leaf) (.two .none (.two .none (.leaf) (.two .none (.two .none (.leaf) (.leaf)) (.leaf))) (.two .none (.leaf) (.two .none (.two .none (.leaf) (.one (.keep [20, 21] (.loop ⟨[(5, .s (.ref 5 [])), (22, .v (.int .i64))], [(5, (.optr (.st (.pr (.osl (.int .i64)) (.pr (.osl (.int .i64)) .nil)))))]⟩ (.x 0 ⟨[(5, .s (.ref 5 []))], [(5, (.optr (.st (.pr (.osl (.int .i64)) (.pr (.osl (.int .i64)) .nil)))))]⟩) (.two .none (.leaf) (.two .none (.two .none (.leaf) (.leaf)) (.two .none (.one (.two .none (.leaf) (.two .none (.leaf) (.one (.keep [6, 22, 27, 28] (.loop ⟨[(5, .s (.ref 5 [])), (29, .v (.int .i64))], [(5, (.optr (.st (.pr (.osl (.int .i64)) (.pr (.osl (.int .i64)) .nil)))))]⟩ (.x 2 ⟨[(5, .s (.ref 5 []))], [(5, (.optr (.st (.pr (.osl (.int .i64)) (.pr (.osl (.int .i64)) .nil)))))]⟩) (.two .none (.leaf) (.two .none (.two .none (.leaf) (.leaf)) (.two .none (.one (.two .none (.leaf) (.leaf))) (.leaf)))))))))) (.leaf)))))))) (.two .none (.leaf) (.leaf)))))))) Try.func23 (by kernel_rfl) (by kernel_rfl) (by kernel_rfl) Try.call23 (tbl_cons ok45 (tbl_cons ok44 (tbl_cons ok43 tbl_nil))) (by intro a; kernel_rfl)
/-- sparse/symbolic.row -/
noncomputable def F40 : Fun := ⟨40, [.v (.st (.pr (.slc .bor (.slc .bor (.int .i64))) .nil)), .v (.slc .bor (.int .i64)), .v (.int .i64)], [(.osl (.int .i64))], d_symbolic_row⟩
theorem ok40 : OkFun E F40 :=
  OkFun.of (fn := Try.f40) (rs := [.tmp 6]) ([]) [(3, (.ptr .imm (.st (.pr (.slc .bor (.slc .bor (.int .i64))) .nil)))), (15, (.osl .bool)), (10, (.osl (.int .i64)))] [] (.keep [0, 1, 2] (.two .none (.leaf) (.two .none (.leaf) (.two .none (.leaf) (.two .none (.two .none (.leaf) (.one (.keep [23, 24] (.loop ⟨[(7, .s (.ref 7 [])), (25, .v (.int .i64))], [(7, (.osl .bool))]⟩ (.x 0 ⟨[(7, .s (.ref 7 []))], [(7, (.osl .bool))]⟩) (.two .none (.leaf) (.two .none (.two .none (.leaf) (.leaf)) (.two .none (.one (.two .none (.leaf) (.one (.keep [25] (.loop ⟨[(7, .s (.ref 7 [])), (9, .v (.int .i64))], [(7, (.osl .bool))]⟩ (.x 2 ⟨[(7, .s (.ref 7 []))], [(7, (.osl .bool))]⟩) (.two (.xr [9] ⟨[(7, .s (.ref 7 []))], [(7, (.osl .bool))]⟩) (.two .none (.leaf) (.two .none (.leaf) (.leaf))) (.one (.two .none (.leaf) (.leaf))))))))) (.leaf)))))))) (.two .none (.leaf) (.two .none (.two .none (.leaf) (.one (.keep [52] (.loop ⟨[(10, .s (.ref 10 [])), (51, .s (.ref 7 [])), (53, .v (.int .i64))], [(7, (.osl .bool)), (10, (.osl (.int .i64)))]⟩ (.x 4 ⟨[(10, .s (.ref 10 []))], [(10, (.osl (.int .i64)))]⟩) (.two .none (.leaf) (.two .none (.two .none (.leaf) (.leaf)) (.two (.x [53] ⟨[(10, .s (.ref 10 [])), (51, .s (.ref 7 []))], [(7, (.osl .bool)), (10, (.osl (.int .i64)))]⟩) (.one (.two .none (.leaf) (.two .none (.leaf) (.two .none (.leaf) (.leaf))))) (.leaf)))))))) (.two .none (.leaf) (.leaf))))))))) Try.func40 (by kernel_rfl) (by kernel_rfl) (by kernel_rfl) Try.call40 tbl_nil (by intro a; kernel_rfl)
/-- sparse/symbolic.Columns -/
noncomputable def F20 : Fun := ⟨20, [.v (.st (.pr (.slc .bor (.slc .bor (.int .i64))) .nil))], [(.osl (.osl (.int .i64))), (.int .i64)], d_symbolic_Columns⟩
theorem ok20 : OkFun E F20 :=
  OkFun.of (fn := Try.f20) (rs := [.tmp 2, .tmp 3]) ((40, F40) :: (23, F23) :: []) [(1, (.ptr .imm (.st (.pr (.slc .bor (.slc .bor (.int .i64))) .nil)))), (4, (.slc .imm (.int .i64))), (20, (.osl (.osl (.int .i64)))), (2, (.osl (.osl (.int .i64))))] [(4, 13000)] (.keep [0] (.two .none (.leaf) (.two .none (.leaf) (.two .none (.two .none (.leaf) (.two .none (.two .none (.leaf) (.leaf)) (.leaf))) (.two .none (.leaf) (.two .none (.two .none (.leaf) (.one (.keep [1, 4, 22] (.loop ⟨[(6, .s (.ref 6 [])), (23, .v (.int .i64))], [(6, (.osl (.osl (.int .i64))))]⟩ (.x 0 ⟨[(6, .s (.ref 6 []))], [(6, (.osl (.osl (.int .i64))))]⟩) (.two .none (.leaf) (.two .none (.two .none (.leaf) (.leaf)) (.two .none (.one (.two .none (.leaf) (.two .none (.leaf) (.one (.keep [7, 23, 30] (.loop ⟨[(6, .s (.ref 6 [])), (29, .s (.ref 29 [])), (31, .v (.int .i64))], [(6, (.osl (.osl (.int .i64)))), (29, (.osl (.int .i64)))]⟩ (.x 2 ⟨[(6, .s (.ref 6 []))], [(6, (.osl (.osl (.int .i64))))]⟩) (.two .none (.leaf) (.two .none (.two .none (.leaf) (.leaf)) (.two .none (.one (.two .none (.leaf) (.leaf))) (.leaf)))))))))) (.leaf)))))))) (.two .none (.leaf) (.leaf)))))))) Try.func20 (by kernel_rfl) (by kernel_rfl) (by kernel_rfl) Try.call20 (tbl_cons ok40 (tbl_cons ok23 tbl_nil)) (by intro a; kernel_rfl)
/-- sparse/symbolic.column -/
noncomputable def F38 : Fun := ⟨38, [.v (.slc .bor (.int .i64)), .v (.int .i64), .v (.int .i64)], [.bool], d_symbolic_column⟩
theorem ok38 : OkFun E F38 :=
  OkFun.of (fn := Try.f38) (rs := [.tmp 6]) ([]) [] [] (.keep [0, 1, 2] (.two .none (.leaf) (.two (.xr [] ⟨[], []⟩) (.two .none (.leaf) (.two .none (.two .none (.leaf) (.leaf)) (.leaf))) (.two .none (.two .none (.leaf) (.one (.keep [19, 20] (.loop ⟨[(21, .v (.int .i64))], []⟩ (.xr 0 ⟨[], []⟩) (.two .none (.leaf) (.two .none (.two .none (.leaf) (.leaf)) (.two (.xr [21] ⟨[], []⟩) (.one (.two .none (.leaf) (.two .none (.leaf) (.two .none (.two .none (.leaf) (.leaf)) (.leaf))))) (.leaf)))))))) (.two .none (.leaf) (.leaf)))))) Try.func38 (by kernel_rfl) (by kernel_rfl) (by kernel_rfl) Try.call38 tbl_nil (by intro a; kernel_rfl)
/-- sparse/symbolic.Reach -/
noncomputable def F14 : Fun := ⟨14, [.v (.slc .bor (.slc .bor (.int .i64))), .v (.slc .bor (.int .i64))], [(.osl (.int .i64)), (.int .i64)], d_symbolic_Reach⟩
theorem ok14 : OkFun E F14 :=
  OkFun.of (fn := Try.f14) (rs := [.tmp 4, .tmp 5]) ((38, F38) :: []) [(35, (.osl .bool)), (12, (.osl (.int .i64))), (4, (.osl (.int .i64)))] [] (.keep [0, 1] (.two .none (.leaf) (.two .none (.leaf) (.two .none (.two .none (.leaf) (.two .none (.two .none (.leaf) (.leaf)) (.leaf))) (.two .none (.two .none (.leaf) (.one (.keep [6, 21, 22] (.loop ⟨[(23, .v (.int .i64))], []⟩ (.xr 0 ⟨[], []⟩) (.two .none (.leaf) (.two .none (.two .none (.leaf) (.leaf)) (.two .none (.one (.two .none (.leaf) (.two .none (.leaf) (.two .none (.two .none (.leaf) (.leaf)) (.leaf))))) (.leaf)))))))) (.two .none (.leaf) (.two .none (.two .none (.leaf) (.one (.keep [6, 36, 37] (.loop ⟨[(9, .s (.ref 9 [])), (38, .v (.int .i64))], [(9, (.osl .bool))]⟩ (.xr 2 ⟨[(9, .s (.ref 9 []))], [(9, (.osl .bool))]⟩) (.two .none (.leaf) (.two .none (.two .none (.leaf) (.leaf)) (.two (.xr [38] ⟨[(9, .s (.ref 9 []))], [(9, (.osl .bool))]⟩) (.one (.two .none (.leaf) (.two (.xr [11] ⟨[(9, .s (.ref 9 []))], [(9, (.osl .bool))]⟩) (.two (.x [] ⟨[(9, .s (.ref 9 [])), (48, .v .bool)], [(9, (.osl .bool))]⟩) (.leaf) (.two .none (.two .none (.leaf) (.leaf)) (.leaf))) (.leaf)))) (.leaf)))))))) (.two .none (.leaf) (.two .none (.two .none (.leaf) (.one (.keep [53, 54] (.loop ⟨[(9, .s (.ref 9 [])), (12, .s (.ref 12 [])), (55, .v (.int .i64))], [(9, (.osl .bool)), (12, (.osl (.int .i64)))]⟩ (.x 4 ⟨[(12, .s (.ref 12 []))], [(12, (.osl (.int .i64)))]⟩) (.two .none (.leaf) (.two .none (.two .none (.leaf) (.leaf)) (.two (.x [55] ⟨[(9, .s (.ref 9 [])), (12, .s (.ref 12 []))], [(9, (.osl .bool)), (12, (.osl (.int .i64)))]⟩) (.one (.two .none (.leaf) (.two .none (.two .none (.leaf) (.two .none (.leaf) (.leaf))) (.two .none (.leaf) (.two .none (.leaf) (.one (.keep [69, 70] (.loop ⟨[(9, .s (.ref 9 [])), (12, .s (.ref 12 [])), (71, .v (.int .i64))], [(9, (.osl .bool)), (12, (.osl (.int .i64)))]⟩ (.x 6 ⟨[(9, .s (.ref 9 [])), (12, .s (.ref 12 []))], [(9, (.osl .bool)), (12, (.osl (.int .i64)))]⟩) (.two .none (.leaf) (.two .none (.two .none (.leaf) (.leaf)) (.two .none (.one (.two .none (.leaf) (.leaf))) (.leaf)))))))))))) (.leaf)))))))) (.two .none (.leaf) (.leaf))))))))))) Try.func14 (by kernel_rfl) (by kernel_rfl) (by kernel_rfl) Try.call14 (tbl_cons ok38 tbl_nil) (by intro a; kernel_rfl)
/-- sparse/sparsekit.Ints -/
noncomputable def F16 : Fun := ⟨16, [.v (.slc .bor (.int .i64)), .v (.slc .bor (.int .i64))], [.bool], d_sparsekit_Ints⟩
theorem ok16 : OkFun E F16 :=
  OkFun.of (fn := Try.f16) (rs := [.tmp 4]) ([]) [] [] (.keep [0, 1] (.two .none (.leaf) (.two .none (.two .none (.leaf) (.two .none (.two .none (.leaf) (.leaf)) (.leaf))) (.two .none (.two .none (.leaf) (.one (.loop ⟨[(5, .v (.int .i64))], []⟩ (.xr 0 ⟨[], []⟩) (.two .none (.two .none (.leaf) (.two .none (.leaf) (.leaf))) (.two .none (.one (.two .none (.draw [⟨0, [17], [0], [], [], []⟩, ⟨1, [18], [5], [], [], []⟩, ⟨2, [19], [17, 18], [0, 1], [], []⟩, ⟨3, [20], [19], [2], [], []⟩, ⟨4, [21], [1], [], [], []⟩, ⟨5, [22], [5], [], [], []⟩, ⟨6, [23], [21, 22], [4, 5], [], []⟩, ⟨7, [24], [23], [6], [], []⟩, ⟨8, [25], [20, 24], [3, 7], [], []⟩]) (.two .none (.two .none (.leaf) (.leaf)) (.leaf)))) (.leaf)))))) (.two .none (.leaf) (.leaf)))))) Try.func16 (by kernel_rfl) (by kernel_rfl) (by kernel_rfl) Try.call16 tbl_nil (by intro a; kernel_rfl)
/-- sparse/sparsekit.Lists -/
noncomputable def F17 : Fun := ⟨17, [.v (.slc .bor (.slc .bor (.int .i64))), .v (.slc .bor (.slc .bor (.int .i64)))], [.bool], d_sparsekit_Lists⟩
theorem ok17 : OkFun E F17 :=
  OkFun.of (fn := Try.f17) (rs := [.tmp 4]) ((16, F16) :: []) [] [] (.keep [0, 1] (.two .none (.leaf) (.two .none (.two .none (.leaf) (.two .none (.two .none (.leaf) (.leaf)) (.leaf))) (.two .none (.two .none (.leaf) (.one (.loop ⟨[(5, .v (.int .i64))], []⟩ (.xr 0 ⟨[], []⟩) (.two .none (.two .none (.leaf) (.two .none (.leaf) (.leaf))) (.two .none (.one (.two .none (.draw [⟨0, [17], [0], [], [], []⟩, ⟨1, [18], [5], [], [], []⟩, ⟨2, [19], [17, 18], [0, 1], [], []⟩, ⟨3, [20], [19], [2], [], []⟩, ⟨4, [21], [1], [], [], []⟩, ⟨5, [22], [5], [], [], []⟩, ⟨6, [23], [21, 22], [4, 5], [], []⟩, ⟨7, [24], [23], [6], [], []⟩, ⟨8, [25], [20, 24], [3, 7], [], []⟩, ⟨9, [26], [25], [8], [], []⟩]) (.two .none (.two .none (.leaf) (.leaf)) (.leaf)))) (.leaf)))))) (.two .none (.leaf) (.leaf)))))) Try.func17 (by kernel_rfl) (by kernel_rfl) (by kernel_rfl) Try.call17 (tbl_cons ok16 tbl_nil) (by intro a; kernel_rfl)
/-- sparse/sparselaw20.awake -/
noncomputable def F11 : Fun := ⟨11, [], [.bool], d_sparselaw20q_awake⟩
theorem ok11 : OkFun E F11 :=
  OkFun.of (fn := Try.f11) (rs := [.tmp 0]) ((20, F20) :: (17, F17) :: (16, F16) :: (14, F14) :: []) [(1, (.st (.pr (.slc .imm (.slc .imm (.int .i64))) .nil))), (2, (.slc .imm (.slc .imm (.int .i64)))), (4, (.slc .imm (.int .i64)))] [(2, 14000), (4, 20000), (9, 6), (9, 7), (9, 8), (10, 9), (33, 30), (33, 31), (33, 32)] (.two .none (.leaf) (.two .none (.leaf) (.two .none (.leaf) (.two .none (.leaf) (.two .none (.leaf) (.leaf)))))) Try.func11 (by kernel_rfl) (by kernel_rfl) (by kernel_rfl) Try.call11 (tbl_cons ok20 (tbl_cons ok17 (tbl_cons ok16 (tbl_cons ok14 tbl_nil)))) (by intro a; kernel_rfl)
/-- sparse/sparsekit.TwinInts -/
noncomputable def F13 : Fun := ⟨13, [.v (.slc .bor (.int .i64))], [(.osl (.int .i64))], d_sparsekit_TwinInts⟩
theorem ok13 : OkFun E F13 :=
  OkFun.of (fn := Try.f13) (rs := [.tmp 2]) ([]) [(3, (.osl (.int .i64)))] [] (.keep [0] (.two .none (.leaf) (.two .none (.leaf) (.two .none (.two .none (.leaf) (.one (.loop ⟨[(3, .s (.ref 3 [])), (4, .v (.int .i64))], [(3, (.osl (.int .i64)))]⟩ (.x 0 ⟨[(3, .s (.ref 3 []))], [(3, (.osl (.int .i64)))]⟩) (.two .none (.two .none (.leaf) (.two .none (.leaf) (.leaf))) (.two .none (.one (.leaf)) (.leaf)))))) (.two .none (.leaf) (.leaf)))))) Try.func13 (by kernel_rfl) (by kernel_rfl) (by kernel_rfl) Try.call13 tbl_nil (by intro a; kernel_rfl)
/-- sparse/sparsekit.TwinLists -/
noncomputable def F12 : Fun := ⟨12, [.v (.slc .bor (.slc .bor (.int .i64)))], [(.osl (.slc .imm (.int .i64)))], d_sparsekit_TwinLists⟩
theorem ok12 : OkFun E F12 :=
  OkFun.of (fn := Try.f12) (rs := [.tmp 2]) ((13, F13) :: []) [(3, (.osl (.slc .imm (.int .i64))))] [(17, 16)] (.keep [0] (.two .none (.leaf) (.two .none (.leaf) (.two .none (.two .none (.leaf) (.one (.loop ⟨[(3, .s (.ref 3 [])), (4, .v (.int .i64))], [(3, (.osl (.slc .imm (.int .i64))))]⟩ (.x 0 ⟨[(3, .s (.ref 3 []))], [(3, (.osl (.slc .imm (.int .i64))))]⟩) (.two .none (.two .none (.leaf) (.two .none (.leaf) (.leaf))) (.two .none (.one (.leaf)) (.leaf)))))) (.two .none (.leaf) (.leaf)))))) Try.func12 (by kernel_rfl) (by kernel_rfl) (by kernel_rfl) Try.call12 (tbl_cons ok13 tbl_nil) (by intro a; kernel_rfl)
/-- sparse/sparsekit.TwinGraph -/
noncomputable def F29 : Fun := ⟨29, [.v (.st (.pr (.slc .bor (.slc .bor (.int .i64))) .nil))], [(.st (.pr (.slc .imm (.slc .imm (.int .i64))) .nil))], d_sparsekit_TwinGraph⟩
theorem ok29 : OkFun E F29 :=
  OkFun.of (fn := Try.f29) (rs := [.cell 2 35]) ((12, F12) :: []) [(1, (.ptr .imm (.st (.pr (.slc .bor (.slc .bor (.int .i64))) .nil)))), (2, (.st (.pr (.slc .imm (.slc .imm (.int .i64))) .nil)))] [(6, 5)] (.keep [0] (.two .none (.leaf) (.two .none (.leaf) (.leaf)))) Try.func29 (by kernel_rfl) (by kernel_rfl) (by kernel_rfl) Try.call29 (tbl_cons ok12 tbl_nil) (by intro a; kernel_rfl)
/-- sparse/sparsekit.Ascending -/
noncomputable def F25 : Fun := ⟨25, [.v (.slc .bor (.int .i64))], [.bool], d_sparsekit_Ascending⟩
theorem ok25 : OkFun E F25 :=
  OkFun.of (fn := Try.f25) (rs := [.tmp 2]) ([]) [] [] (.keep [0] (.two .none (.leaf) (.two .none (.two .none (.leaf) (.one (.loop ⟨[(3, .v (.int .i64))], []⟩ (.xr 0 ⟨[], []⟩) (.two .none (.two .none (.leaf) (.two .none (.leaf) (.leaf))) (.two .none (.one (.two .none (.draw [⟨0, [10], [0], [], [], []⟩, ⟨1, [11], [3], [], [], []⟩, ⟨2, [12], [10, 11], [0, 1], [], []⟩, ⟨3, [13], [12], [2], [], []⟩, ⟨4, [14], [0], [], [], []⟩, ⟨5, [15], [3], [], [], []⟩, ⟨6, [16], [15], [5], [], []⟩, ⟨7, [17], [14, 16], [4, 6], [], []⟩, ⟨8, [18], [17], [7], [], []⟩, ⟨9, [19], [13, 18], [3, 8], [], []⟩]) (.two .none (.two .none (.leaf) (.leaf)) (.leaf)))) (.leaf)))))) (.two .none (.leaf) (.leaf))))) Try.func25 (by kernel_rfl) (by kernel_rfl) (by kernel_rfl) Try.call25 tbl_nil (by intro a; kernel_rfl)
/-- sparse/sparsekit.In -/
noncomputable def F21 : Fun := ⟨21, [.v (.slc .bor (.int .i64)), .v (.int .i64)], [.bool], d_sparsekit_In⟩
theorem ok21 : OkFun E F21 :=
  OkFun.of (fn := Try.f21) (rs := [.tmp 4]) ([]) [] [] (.keep [0, 1] (.two .none (.leaf) (.two .none (.two .none (.leaf) (.one (.loop ⟨[(5, .v (.int .i64))], []⟩ (.xr 0 ⟨[], []⟩) (.two .none (.two .none (.leaf) (.two .none (.leaf) (.leaf))) (.two .none (.one (.two .none (.leaf) (.two .none (.two .none (.leaf) (.leaf)) (.leaf)))) (.leaf)))))) (.two .none (.leaf) (.leaf))))) Try.func21 (by kernel_rfl) (by kernel_rfl) (by kernel_rfl) Try.call21 tbl_nil (by intro a; kernel_rfl)
/-- sparse/sparseref12.Check -/
noncomputable def F46 : Fun := ⟨46, [.v (.st (.pr (.slc .bor (.slc .bor (.int .i64))) .nil))], [(.int .i64)], d_sparseref12q_Check⟩
theorem ok46 : OkFun E F46 :=
  OkFun.of (fn := Try.f46) (rs := [.tmp 2]) ((25, F25) :: (21, F21) :: []) [(1, (.ptr .imm (.st (.pr (.slc .bor (.slc .bor (.int .i64))) .nil))))] [] (.keep [0] (.two .none (.leaf) (.two .none (.leaf) (.two .none (.two .none (.leaf) (.two .none (.two .none (.leaf) (.leaf)) (.leaf))) (.two .none (.two .none (.leaf) (.one (.keep [1, 3] (.loop ⟨[(4, .v (.int .i64))], []⟩ (.xr 0 ⟨[], []⟩) (.two .none (.two .none (.leaf) (.two .none (.leaf) (.leaf))) (.two .none (.one (.two .none (.two .none (.leaf) (.two .none (.two .none (.leaf) (.leaf)) (.leaf))) (.two .none (.leaf) (.one (.keep [4] (.loop ⟨[(5, .v (.int .i64))], []⟩ (.xr 2 ⟨[], []⟩) (.two .none (.two .none (.leaf) (.two .none (.leaf) (.leaf))) (.two (.xr [5] ⟨[], []⟩) (.one (.two .none (.leaf) (.two .none (.leaf) (.two .none (.two .none (.leaf) (.leaf)) (.leaf))))) (.leaf))))))))) (.leaf))))))) (.two .none (.leaf) (.leaf))))))) Try.func46 (by kernel_rfl) (by kernel_rfl) (by kernel_rfl) Try.call46 (tbl_cons ok25 (tbl_cons ok21 tbl_nil)) (by intro a; kernel_rfl)
/-- sparse/sparseref12.Table -/
noncomputable def F57 : Fun := ⟨57, [.v (.st (.pr (.slc .bor (.slc .bor (.int .i64))) .nil))], [(.osl (.osl .bool))], d_sparseref12q_Table⟩
theorem ok57 : OkFun E F57 :=
  OkFun.of (fn := Try.f57) (rs := [.tmp 2]) ([]) [(1, (.ptr .imm (.st (.pr (.slc .bor (.slc .bor (.int .i64))) .nil)))), (4, (.osl (.osl .bool))), (17, (.osl .bool)), (40, (.osl (.osl .bool)))] [] (.keep [0] (.two .none (.leaf) (.two .none (.leaf) (.two .none (.leaf) (.two .none (.two .none (.leaf) (.one (.keep [1, 3] (.loop ⟨[(4, .s (.ref 4 [])), (5, .v (.int .i64))], [(4, (.osl (.osl .bool)))]⟩ (.x 0 ⟨[(4, .s (.ref 4 []))], [(4, (.osl (.osl .bool)))]⟩) (.two .none (.two .none (.leaf) (.two .none (.leaf) (.leaf))) (.two .none (.one (.two .none (.leaf) (.two .none (.two .none (.leaf) (.one (.keep [5] (.loop ⟨[(4, .s (.ref 4 [])), (6, .s (.ref 6 [])), (7, .v (.int .i64))], [(4, (.osl (.osl .bool))), (6, (.osl .bool))]⟩ (.x 2 ⟨[(4, .s (.ref 4 [])), (6, .s (.ref 6 []))], [(4, (.osl (.osl .bool))), (6, (.osl .bool))]⟩) (.two .none (.two .none (.leaf) (.two .none (.leaf) (.leaf))) (.two .none (.one (.leaf)) (.leaf))))))) (.leaf)))) (.leaf))))))) (.two .none (.leaf) (.leaf))))))) Try.func57 (by kernel_rfl) (by kernel_rfl) (by kernel_rfl) Try.call57 tbl_nil (by intro a; kernel_rfl)
/-- sparse/sparseref16.Begin -/
noncomputable def F47 : Fun := ⟨47, [.v (.st (.pr (.slc .bor (.slc .bor (.int .i64))) .nil))], [(.optr (.st (.pr (.osl (.osl .bool)) (.pr (.osl .bool) .nil))))], d_sparseref16q_Begin⟩
theorem ok47 : OkFun E F47 :=
  OkFun.of (fn := Try.f47) (rs := [.tmp 2]) ((57, F57) :: []) [(1, (.ptr .imm (.st (.pr (.slc .bor (.slc .bor (.int .i64))) .nil)))), (8, (.osl .bool))] [] (.keep [0] (.two .none (.leaf) (.two .none (.draw [⟨0, [3], [1], [], [], []⟩, ⟨1, [4], [3], [0], [4], [4]⟩, ⟨2, [5], [1], [], [], []⟩, ⟨3, [6], [5], [2], [], []⟩, ⟨4, [7], [6], [3], [], []⟩, ⟨5, [8], [7, 7], [4, 4], [8], [8]⟩, ⟨6, [9], [4, 8], [1, 5], [4, 8, 9], [4, 8, 9, 500004, 500008]⟩, ⟨7, [10], [9], [6], [9, 10], [9, 10, 500009]⟩, ⟨8, [2], [10], [7, 1, 0, 1, 2, 3, 4, 5, 6, 7], [2, 10], [2, 10, 500002, 500010]⟩]) (.leaf)))) Try.func47 (by kernel_rfl) (by kernel_rfl) (by kernel_rfl) Try.call47 (tbl_cons ok57 tbl_nil) (by intro a; kernel_rfl)
/-- (*sparse/sparseref16.Elimination).Neighbours -/
noncomputable def F48 : Fun := ⟨48, [.v (.ptr .bor (.st (.pr (.slc .bor (.slc .bor .bool)) (.pr (.slc .bor .bool) .nil)))), .v (.int .i64)], [(.osl (.int .i64))], d_sparseref16q_Elimination_Neighbours⟩
theorem ok48 : OkFun E F48 :=
  OkFun.of (fn := Try.f48) (rs := [.tmp 4]) ([]) [(5, (.osl (.int .i64)))] [] (.keep [0, 1] (.two .none (.leaf) (.two .none (.leaf) (.two .none (.two .none (.leaf) (.one (.loop ⟨[(5, .s (.ref 5 [])), (6, .v (.int .i64))], [(5, (.osl (.int .i64)))]⟩ (.x 0 ⟨[(5, .s (.ref 5 []))], [(5, (.osl (.int .i64)))]⟩) (.two .none (.two .none (.leaf) (.two .none (.leaf) (.leaf))) (.two (.x [6] ⟨[(5, .s (.ref 5 []))], [(5, (.osl (.int .i64)))]⟩) (.one (.two (.x [] ⟨[(5, .s (.ref 5 [])), (35, .v .bool)], [(5, (.osl (.int .i64)))]⟩) (.leaf) (.two .none (.leaf) (.leaf)))) (.leaf)))))) (.two .none (.leaf) (.leaf)))))) Try.func48 (by kernel_rfl) (by kernel_rfl) (by kernel_rfl) Try.call48 tbl_nil (by intro a; kernel_rfl)
/-- (*sparse/sparseref16.Elimination).Eliminate -/
noncomputable def F49 : Fun := ⟨49, [.m (.optr (.st (.pr (.osl (.osl .bool)) (.pr (.osl .bool) .nil)))), .v (.int .i64)], [], d_sparseref16q_Elimination_Eliminate⟩
theorem ok49 : OkFun E F49 :=
  OkFun.of (fn := Try.f49) (rs := []) ((48, F48) :: []) [(4, (.slc .imm (.int .i64)))] [(4, 9)] (.keep [1] (.two .none (.leaf) (.two .none (.two .none (.leaf) (.one (.keep [4] (.loop ⟨[(0, .s (.ref 0 [])), (5, .v (.int .i64))], [(0, (.optr (.st (.pr (.osl (.osl .bool)) (.pr (.osl .bool) .nil)))))]⟩ (.x 0 ⟨[(0, .s (.ref 0 []))], [(0, (.optr (.st (.pr (.osl (.osl .bool)) (.pr (.osl .bool) .nil)))))]⟩) (.two .none (.two .none (.leaf) (.two .none (.leaf) (.leaf))) (.two .none (.one (.two .none (.leaf) (.one (.keep [5] (.loop ⟨[(0, .s (.ref 0 [])), (6, .v (.int .i64))], [(0, (.optr (.st (.pr (.osl (.osl .bool)) (.pr (.osl .bool) .nil)))))]⟩ (.x 2 ⟨[(0, .s (.ref 0 []))], [(0, (.optr (.st (.pr (.osl (.osl .bool)) (.pr (.osl .bool) .nil)))))]⟩) (.two .none (.two .none (.leaf) (.two .none (.leaf) (.leaf))) (.two (.x [6] ⟨[(0, .s (.ref 0 []))], [(0, (.optr (.st (.pr (.osl (.osl .bool)) (.pr (.osl .bool) .nil)))))]⟩) (.one (.two .none (.leaf) (.two .none (.draw [⟨0, [25], [0], [], [500000], []⟩, ⟨1, [26], [25], [0], [0], []⟩, ⟨2, [27], [26], [1], [0], []⟩, ⟨3, [28], [27], [2], [0], []⟩, ⟨4, [29], [4], [], [], []⟩, ⟨5, [30], [5], [], [], []⟩, ⟨6, [31], [29, 30], [4, 5], [], []⟩, ⟨7, [32], [31], [6], [], []⟩, ⟨8, [33], [28, 32], [3, 7], [0], []⟩, ⟨9, [34], [33], [8], [0], []⟩, ⟨10, [35], [4], [], [], []⟩, ⟨11, [36], [6], [], [], []⟩, ⟨12, [37], [35, 36], [10, 11], [], []⟩, ⟨13, [38], [37], [12], [], []⟩, ⟨14, [39], [34, 38], [9, 13, 0, 1, 2, 3, 4, 5, 6, 7, 8, 9, 10, 11, 12, 13], [0], []⟩, ⟨15, [], [39], [14, 0, 1, 2, 3, 4, 5, 6, 7, 8, 9, 10, 11, 12, 13], [0], [0]⟩]) (.leaf)))) (.leaf)))))))) (.leaf))))))) (.leaf)))) Try.func49 (by kernel_rfl) (by kernel_rfl) (by kernel_rfl) Try.call49 (tbl_cons ok48 tbl_nil) (by intro a; kernel_rfl)
/-- sparse/sparseref20.Columns -/
noncomputable def F24 : Fun := ⟨24, [.v (.st (.pr (.slc .bor (.slc .bor (.int .i64))) .nil))], [(.osl (.slc .imm (.int .i64))), (.int .i64)], d_sparseref20q_Columns⟩
theorem ok24 : OkFun E F24 :=
  OkFun.of (fn := Try.f24) (rs := [.tmp 2, .tmp 3]) ((49, F49) :: (48, F48) :: (47, F47) :: (46, F46) :: []) [(1, (.ptr .imm (.st (.pr (.slc .bor (.slc .bor (.int .i64))) .nil)))), (6, (.osl (.slc .imm (.int .i64)))), (2, (.osl (.slc .imm (.int .i64))))] [(29, 28)] (.keep [0] (.two .none (.leaf) (.two .none (.two .none (.leaf) (.two .none (.leaf) (.two .none (.two .none (.leaf) (.leaf)) (.leaf)))) (.two .none (.leaf) (.two .none (.leaf) (.two .none (.two .none (.leaf) (.one (.keep [1] (.loop ⟨[(5, .s (.ref 5 [])), (6, .s (.ref 6 [])), (7, .v (.int .i64))], [(5, (.optr (.st (.pr (.osl (.osl .bool)) (.pr (.osl .bool) .nil))))), (6, (.osl (.slc .imm (.int .i64))))]⟩ (.x 0 ⟨[(6, .s (.ref 6 []))], [(6, (.osl (.slc .imm (.int .i64))))]⟩) (.two .none (.two .none (.leaf) (.two .none (.leaf) (.leaf))) (.two .none (.one (.two .none (.leaf) (.leaf))) (.leaf))))))) (.two .none (.leaf) (.leaf)))))))) Try.func24 (by kernel_rfl) (by kernel_rfl) (by kernel_rfl) Try.call24 (tbl_cons ok49 (tbl_cons ok48 (tbl_cons ok47 (tbl_cons ok46 tbl_nil)))) (by intro a; kernel_rfl)
/-- sparse/symbolic.Row -/
noncomputable def F27 : Fun := ⟨27, [.v (.st (.pr (.slc .bor (.slc .bor (.int .i64))) .nil)), .v (.int .i64)], [(.osl (.int .i64)), (.int .i64)], d_symbolic_Row⟩
theorem ok27 : OkFun E F27 :=
  OkFun.of (fn := Try.f27) (rs := [.tmp 4, .tmp 5]) ((40, F40) :: (23, F23) :: []) [(2, (.ptr .imm (.st (.pr (.slc .bor (.slc .bor (.int .i64))) .nil)))), (6, (.slc .imm (.int .i64))), (4, (.osl (.int .i64)))] [(6, 11000)] (.keep [0, 1] (.two .none (.leaf) (.two .none (.leaf) (.two (.xr [2, 6] ⟨[], []⟩) (.one (.two .none (.leaf) (.two .none (.two .none (.leaf) (.leaf)) (.two (.x [] ⟨[(17, .v .bool)], []⟩) (.leaf) (.two .none (.two .none (.leaf) (.leaf)) (.leaf)))))) (.two .none (.leaf) (.leaf)))))) Try.func27 (by kernel_rfl) (by kernel_rfl) (by kernel_rfl) Try.call27 (tbl_cons ok40 (tbl_cons ok23 tbl_nil)) (by intro a; kernel_rfl)
/-- sparse/sparseref20.Row -/
noncomputable def F30 : Fun := ⟨30, [.v (.st (.pr (.slc .bor (.slc .bor (.int .i64))) .nil)), .v (.int .i64)], [(.osl (.int .i64)), (.int .i64)], d_sparseref20q_Row⟩
theorem ok30 : OkFun E F30 :=
  OkFun.of (fn := Try.f30) (rs := [.tmp 4, .tmp 5]) ((24, F24) :: (21, F21) :: []) [(2, (.ptr .imm (.st (.pr (.slc .bor (.slc .bor (.int .i64))) .nil)))), (6, (.slc .imm (.slc .imm (.int .i64)))), (8, (.osl (.int .i64))), (4, (.osl (.int .i64)))] [(6, 13000)] (.keep [0, 1] (.two .none (.leaf) (.two .none (.leaf) (.two .none (.two .none (.leaf) (.two .none (.two .none (.leaf) (.leaf)) (.leaf))) (.two (.xr [6] ⟨[], []⟩) (.two (.x [] ⟨[(25, .v .bool)], []⟩) (.leaf) (.two .none (.two .none (.leaf) (.leaf)) (.leaf))) (.two .none (.leaf) (.two .none (.two .none (.leaf) (.one (.keep [6] (.loop ⟨[(8, .s (.ref 8 [])), (9, .v (.int .i64))], [(8, (.osl (.int .i64)))]⟩ (.x 0 ⟨[(8, .s (.ref 8 []))], [(8, (.osl (.int .i64)))]⟩) (.two .none (.two .none (.leaf) (.two .none (.leaf) (.leaf))) (.two (.x [9] ⟨[(8, .s (.ref 8 []))], [(8, (.osl (.int .i64)))]⟩) (.one (.two .none (.leaf) (.two .none (.leaf) (.leaf)))) (.leaf))))))) (.two .none (.leaf) (.leaf))))))))) Try.func30 (by kernel_rfl) (by kernel_rfl) (by kernel_rfl) Try.call30 (tbl_cons ok24 (tbl_cons ok21 tbl_nil)) (by intro a; kernel_rfl)
/-- sparse/symbolic.Counts -/
noncomputable def F26 : Fun := ⟨26, [.v (.st (.pr (.slc .bor (.slc .bor (.int .i64))) .nil))], [(.osl (.int .i64)), (.int .i64)], d_symbolic_Counts⟩
theorem ok26 : OkFun E F26 :=
  OkFun.of (fn := Try.f26) (rs := [.tmp 2, .tmp 3]) ((40, F40) :: (23, F23) :: []) [(1, (.ptr .imm (.st (.pr (.slc .bor (.slc .bor (.int .i64))) .nil)))), (4, (.slc .imm (.int .i64))), (20, (.osl (.int .i64))), (2, (.osl (.int .i64)))] [(4, 13000)] (.keep [0] (.two .none (.leaf) (.two .none (.leaf) (.two .none (.two .none (.leaf) (.two .none (.two .none (.leaf) (.leaf)) (.leaf))) (.two .none (.leaf) (.two .none (.two .none (.leaf) (.one (.keep [1, 4, 22] (.loop ⟨[(6, .s (.ref 6 [])), (23, .v (.int .i64))], [(6, (.osl (.int .i64)))]⟩ (.x 0 ⟨[(6, .s (.ref 6 []))], [(6, (.osl (.int .i64)))]⟩) (.two .none (.leaf) (.two .none (.two .none (.leaf) (.leaf)) (.two .none (.one (.two .none (.leaf) (.two .none (.leaf) (.one (.keep [23, 30] (.loop ⟨[(6, .s (.ref 6 [])), (29, .s (.ref 29 [])), (31, .v (.int .i64))], [(6, (.osl (.int .i64))), (29, (.osl (.int .i64)))]⟩ (.x 2 ⟨[(6, .s (.ref 6 []))], [(6, (.osl (.int .i64)))]⟩) (.two .none (.leaf) (.two .none (.two .none (.leaf) (.leaf)) (.two .none (.one (.two .none (.leaf) (.leaf))) (.leaf)))))))))) (.leaf)))))))) (.two .none (.leaf) (.leaf)))))))) Try.func26 (by kernel_rfl) (by kernel_rfl) (by kernel_rfl) Try.call26 (tbl_cons ok40 (tbl_cons ok23 tbl_nil)) (by intro a; kernel_rfl)
/-- sparse/sparseref20.Counts -/
noncomputable def F31 : Fun := ⟨31, [.v (.st (.pr (.slc .bor (.slc .bor (.int .i64))) .nil))], [(.osl (.int .i64)), (.int .i64)], d_sparseref20q_Counts⟩
theorem ok31 : OkFun E F31 :=
  OkFun.of (fn := Try.f31) (rs := [.tmp 2, .tmp 3]) ((24, F24) :: []) [(1, (.ptr .imm (.st (.pr (.slc .bor (.slc .bor (.int .i64))) .nil)))), (4, (.slc .imm (.slc .imm (.int .i64)))), (6, (.osl (.int .i64))), (2, (.osl (.int .i64)))] [(4, 11000)] (.keep [0] (.two .none (.leaf) (.two .none (.leaf) (.two .none (.two .none (.leaf) (.two .none (.two .none (.leaf) (.leaf)) (.leaf))) (.two .none (.leaf) (.two .none (.two .none (.leaf) (.one (.keep [4] (.loop ⟨[(6, .s (.ref 6 [])), (7, .v (.int .i64))], [(6, (.osl (.int .i64)))]⟩ (.x 0 ⟨[(6, .s (.ref 6 []))], [(6, (.osl (.int .i64)))]⟩) (.two .none (.two .none (.leaf) (.two .none (.leaf) (.leaf))) (.two .none (.one (.leaf)) (.leaf))))))) (.two .none (.leaf) (.leaf)))))))) Try.func31 (by kernel_rfl) (by kernel_rfl) (by kernel_rfl) Try.call31 (tbl_cons ok24 tbl_nil) (by intro a; kernel_rfl)
/-- sparse/graph.vertex -/
noncomputable def F64 : Fun := ⟨64, [.v (.st (.pr (.slc .bor (.slc .bor (.int .i64))) .nil)), .v (.int .i64)], [.bool], d_graph_vertex⟩
theorem ok64 : OkFun E F64 :=
  OkFun.of (fn := Try.f64) (rs := [.tmp 4]) ([]) [(2, (.ptr .imm (.st (.pr (.slc .bor (.slc .bor (.int .i64))) .nil))))] [] (.keep [0, 1] (.two .none (.leaf) (.two .none (.leaf) (.leaf)))) Try.func64 (by kernel_rfl) (by kernel_rfl) (by kernel_rfl) Try.call64 tbl_nil (by intro a; kernel_rfl)
/-- math/bits.Len64 -/
noncomputable def F94 : Fun := ⟨94, [.v (.int .u64)], [(.int .i64)], d_math_bits_Len64⟩
theorem ok94 : OkFun E F94 :=
  OkFun.of (fn := Try.f94) (rs := [.tmp 2]) ([]) [] [] (.two .none (.leaf) (.two (.x [] ⟨[(0, .v (.int .u64)), (2, .v (.int .i64))], []⟩) (.two .none (.leaf) (.two .none (.two .none (.leaf) (.leaf)) (.leaf))) (.two (.x [] ⟨[(0, .v (.int .u64)), (2, .v (.int .i64))], []⟩) (.two .none (.leaf) (.two .none (.two .none (.leaf) (.leaf)) (.leaf))) (.two (.x [] ⟨[(0, .v (.int .u64)), (2, .v (.int .i64))], []⟩) (.two .none (.leaf) (.two .none (.two .none (.leaf) (.leaf)) (.leaf))) (.two .none (.leaf) (.leaf)))))) Try.func94 (by kernel_rfl) (by kernel_rfl) (by kernel_rfl) Try.call94 tbl_nil (by intro a; kernel_rfl)
/-- math/bits.Len -/
noncomputable def F84 : Fun := ⟨84, [.v (.int .u64)], [(.int .i64)], d_math_bits_Len⟩
theorem ok84 : OkFun E F84 :=
  OkFun.of (fn := Try.f84) (rs := [.tmp 2]) ((94, F94) :: []) [] [] (.keep [0] (.two .none (.leaf) (.two .none (.two .none (.two .none (.leaf) (.leaf)) (.leaf)) (.two .none (.leaf) (.leaf))))) Try.func84 (by kernel_rfl) (by kernel_rfl) (by kernel_rfl) Try.call84 (tbl_cons ok94 tbl_nil) (by intro a; kernel_rfl)
/-- slices.insertionSortOrdered[int] -/
noncomputable def F85 : Fun := ⟨85, [.m (.osl (.int .i64)), .v (.int .i64), .v (.int .i64)], [], d_slices_insertionSortOrdered_int⟩
theorem ok85 : OkFun E F85 :=
  OkFun.of (fn := Try.f85) (rs := []) ((76, F76) :: []) [] [] (.keep [1, 2] (.two .none (.leaf) (.one (.loop ⟨[(0, .s (.ref 0 [])), (6, .v (.int .i64))], [(0, (.osl (.int .i64)))]⟩ (.x 0 ⟨[(0, .s (.ref 0 []))], [(0, (.osl (.int .i64)))]⟩) (.two .none (.two .none (.leaf) (.two .none (.leaf) (.leaf))) (.two .none (.one (.two .none (.leaf) (.one (.keep [6] (.loop ⟨[(0, .s (.ref 0 [])), (7, .v (.int .i64))], [(0, (.osl (.int .i64)))]⟩ (.x 2 ⟨[(0, .s (.ref 0 []))], [(0, (.osl (.int .i64)))]⟩) (.two (.xr [7] ⟨[(0, .s (.ref 0 []))], [(0, (.osl (.int .i64)))]⟩) (.two .none (.draw [⟨0, [16], [7], [], [], []⟩, ⟨1, [17], [1], [], [], []⟩, ⟨2, [18], [16, 17], [0, 1], [], []⟩, ⟨3, [19], [18], [2], [], []⟩, ⟨4, [20], [0, 19], [3], [500000], []⟩, ⟨5, [21], [7, 19], [3], [], []⟩, ⟨6, [22], [20, 21, 19], [4, 5, 3], [0], []⟩, ⟨7, [23], [22, 19], [6, 3], [0], []⟩, ⟨8, [24], [0, 19], [3], [500000], []⟩, ⟨9, [25], [7, 19], [3], [], []⟩, ⟨10, [26], [25, 19], [9, 3], [], []⟩, ⟨11, [27], [24, 26, 19], [8, 10, 3], [0], []⟩, ⟨12, [28], [27, 19], [11, 3], [0], []⟩, ⟨13, [29], [23, 28, 19], [7, 12, 3, 3], [], []⟩, ⟨14, [30], [19, 29], [3, 13], [], []⟩]) (.two .none (.leaf) (.leaf))) (.two .none (.one (.draw [⟨0, [33], [0], [], [500000], []⟩, ⟨1, [34], [7], [], [], []⟩, ⟨2, [35], [0], [], [500000], []⟩, ⟨3, [36], [7], [], [], []⟩, ⟨4, [37], [36], [3], [], []⟩, ⟨5, [38], [0], [], [500000], []⟩, ⟨6, [39], [7], [], [], []⟩, ⟨7, [40], [39], [6], [], []⟩, ⟨8, [41], [38, 40], [5, 7], [0], []⟩, ⟨9, [42], [41], [8], [0], []⟩, ⟨10, [43], [0], [], [500000], []⟩, ⟨11, [44], [7], [], [], []⟩, ⟨12, [45], [43, 44], [10, 11], [0], []⟩, ⟨13, [46], [45], [12], [0], []⟩, ⟨14, [47], [33, 34], [0, 1, 0, 1, 5, 6, 7, 8, 9, 13], [0], []⟩, ⟨15, [], [47, 42], [14, 9, 0, 1, 5, 6, 7, 8, 9, 13], [0], [0]⟩, ⟨16, [48], [35, 37], [2, 4, 0, 1, 2, 3, 4, 5, 6, 7, 8, 9, 10, 11, 12, 13, 14, 15], [0], []⟩, ⟨17, [], [48, 46], [16, 13, 15, 0, 1, 2, 3, 4, 5, 6, 7, 8, 9, 10, 11, 12, 13, 14, 15], [0], [0]⟩])) (.leaf)))))))) (.leaf))))))) Try.func85 (by kernel_rfl) (by kernel_rfl) (by kernel_rfl) Try.call85 (tbl_cons ok76 tbl_nil) (by intro a; kernel_rfl)
/-- slices.siftDownOrdered[int] -/
noncomputable def F95 : Fun := ⟨95, [.m (.osl (.int .i64)), .v (.int .i64), .v (.int .i64), .v (.int .i64)], [], d_slices_siftDownOrdered_int⟩
theorem ok95 : OkFun E F95 :=
  OkFun.of (fn := Try.f95) (rs := []) ((76, F76) :: []) [] [] (.keep [1, 2, 3] (.two .none (.leaf) (.one (.loop ⟨[(0, .s (.ref 0 [])), (8, .v (.int .i64))], [(0, (.osl (.int .i64)))]⟩ (.xr 0 ⟨[(0, .s (.ref 0 []))], [(0, (.osl (.int .i64)))]⟩) (.one (.two .none (.leaf) (.two .none (.two .none (.leaf) (.two .none (.leaf) (.leaf))) (.two (.x [8] ⟨[(0, .s (.ref 0 [])), (9, .v (.int .i64))], [(0, (.osl (.int .i64)))]⟩) (.two (.x [9] ⟨[(0, .s (.ref 0 [])), (36, .v .bool)], [(0, (.osl (.int .i64)))]⟩) (.draw [⟨0, [17], [9], [], [], []⟩, ⟨1, [18], [17], [0], [], []⟩, ⟨2, [19], [2], [], [], []⟩, ⟨3, [20], [18, 19], [1, 2], [], []⟩, ⟨4, [21], [20], [3], [], []⟩, ⟨5, [22], [0, 21], [4], [500000], []⟩, ⟨6, [23], [3, 21], [4], [], []⟩, ⟨7, [24], [9, 21], [4], [], []⟩, ⟨8, [25], [23, 24, 21], [6, 7, 4], [], []⟩, ⟨9, [26], [22, 25, 21], [5, 8, 4], [0], []⟩, ⟨10, [27], [26, 21], [9, 4], [0], []⟩, ⟨11, [28], [0, 21], [4], [500000], []⟩, ⟨12, [29], [3, 21], [4], [], []⟩, ⟨13, [30], [9, 21], [4], [], []⟩, ⟨14, [31], [29, 30, 21], [12, 13, 4], [], []⟩, ⟨15, [32], [31, 21], [14, 4], [], []⟩, ⟨16, [33], [28, 32, 21], [11, 15, 4], [0], []⟩, ⟨17, [34], [33, 21], [16, 4], [0], []⟩, ⟨18, [35], [27, 34, 21], [10, 17, 4, 4], [], []⟩, ⟨19, [36], [21, 35], [4, 18], [], []⟩]) (.two .none (.leaf) (.leaf))) (.two .none (.two .none (.draw [⟨0, [39], [0], [], [500000], []⟩, ⟨1, [40], [3], [], [], []⟩, ⟨2, [41], [8], [], [], []⟩, ⟨3, [42], [40, 41], [1, 2], [], []⟩, ⟨4, [43], [39, 42], [0, 3], [0], []⟩, ⟨5, [44], [43], [4], [0], []⟩, ⟨6, [45], [0], [], [500000], []⟩, ⟨7, [46], [3], [], [], []⟩, ⟨8, [47], [9], [], [], []⟩, ⟨9, [48], [46, 47], [7, 8], [], []⟩, ⟨10, [49], [45, 48], [6, 9], [0], []⟩, ⟨11, [50], [49], [10], [0], []⟩, ⟨12, [51], [44, 50], [5, 11], [], []⟩, ⟨13, [52], [51], [12], [], []⟩]) (.two .none (.leaf) (.leaf))) (.two .none (.draw [⟨0, [53], [0], [], [500000], []⟩, ⟨1, [54], [3], [], [], []⟩, ⟨2, [55], [8], [], [], []⟩, ⟨3, [56], [54, 55], [1, 2], [], []⟩, ⟨4, [57], [0], [], [500000], []⟩, ⟨5, [58], [3], [], [], []⟩, ⟨6, [59], [9], [], [], []⟩, ⟨7, [60], [58, 59], [5, 6], [], []⟩, ⟨8, [61], [0], [], [500000], []⟩, ⟨9, [62], [3], [], [], []⟩, ⟨10, [63], [9], [], [], []⟩, ⟨11, [64], [62, 63], [9, 10], [], []⟩, ⟨12, [65], [61, 64], [8, 11], [0], []⟩, ⟨13, [66], [65], [12], [0], []⟩, ⟨14, [67], [0], [], [500000], []⟩, ⟨15, [68], [3], [], [], []⟩, ⟨16, [69], [8], [], [], []⟩, ⟨17, [70], [68, 69], [15, 16], [], []⟩, ⟨18, [71], [67, 70], [14, 17], [0], []⟩, ⟨19, [72], [71], [18], [0], []⟩, ⟨20, [73], [53, 56], [0, 3, 0, 1, 2, 3, 8, 9, 10, 11, 12, 13, 19], [0], []⟩, ⟨21, [], [73, 66], [20, 13, 0, 1, 2, 3, 8, 9, 10, 11, 12, 13, 19], [0], [0]⟩, ⟨22, [74], [57, 60], [4, 7, 0, 1, 2, 3, 4, 5, 6, 7, 8, 9, 10, 11, 12, 13, 14, 15, 16, 17, 18, 19, 20, 21], [0], []⟩, ⟨23, [], [74, 72], [22, 19, 21, 0, 1, 2, 3, 4, 5, 6, 7, 8, 9, 10, 11, 12, 13, 14, 15, 16, 17, 18, 19, 20, 21], [0], [0]⟩]) (.leaf))))))))))) Try.func95 (by kernel_rfl) (by kernel_rfl) (by kernel_rfl) Try.call95 (tbl_cons ok76 tbl_nil) (by intro a; kernel_rfl)
/-- slices.heapSortOrdered[int] -/
noncomputable def F86 : Fun := ⟨86, [.m (.osl (.int .i64)), .v (.int .i64), .v (.int .i64)], [], d_slices_heapSortOrdered_int⟩
theorem ok86 : OkFun E F86 :=
  OkFun.of (fn := Try.f86) (rs := []) ((95, F95) :: []) [] [] (.keep [1, 2] (.two .none (.leaf) (.two .none (.leaf) (.two .none (.leaf) (.two .none (.two .none (.leaf) (.one (.keep [6, 7, 8] (.loop ⟨[(0, .s (.ref 0 [])), (9, .v (.int .i64))], [(0, (.osl (.int .i64)))]⟩ (.x 0 ⟨[(0, .s (.ref 0 []))], [(0, (.osl (.int .i64)))]⟩) (.two .none (.two .none (.leaf) (.two .none (.leaf) (.leaf))) (.two .none (.one (.leaf)) (.leaf))))))) (.two .none (.leaf) (.one (.keep [6, 7] (.loop ⟨[(0, .s (.ref 0 [])), (10, .v (.int .i64))], [(0, (.osl (.int .i64)))]⟩ (.x 2 ⟨[(0, .s (.ref 0 []))], [(0, (.osl (.int .i64)))]⟩) (.two .none (.two .none (.leaf) (.two .none (.leaf) (.leaf))) (.two .none (.one (.two .none (.draw [⟨0, [33], [0], [], [500000], []⟩, ⟨1, [34], [6], [], [], []⟩, ⟨2, [35], [0], [], [500000], []⟩, ⟨3, [36], [6], [], [], []⟩, ⟨4, [37], [10], [], [], []⟩, ⟨5, [38], [36, 37], [3, 4], [], []⟩, ⟨6, [39], [0], [], [500000], []⟩, ⟨7, [40], [6], [], [], []⟩, ⟨8, [41], [10], [], [], []⟩, ⟨9, [42], [40, 41], [7, 8], [], []⟩, ⟨10, [43], [39, 42], [6, 9], [0], []⟩, ⟨11, [44], [43], [10], [0], []⟩, ⟨12, [45], [0], [], [500000], []⟩, ⟨13, [46], [6], [], [], []⟩, ⟨14, [47], [45, 46], [12, 13], [0], []⟩, ⟨15, [48], [47], [14], [0], []⟩, ⟨16, [49], [33, 34], [0, 1, 0, 1, 6, 7, 8, 9, 10, 11, 15], [0], []⟩, ⟨17, [], [49, 44], [16, 11, 0, 1, 6, 7, 8, 9, 10, 11, 15], [0], [0]⟩, ⟨18, [50], [35, 38], [2, 5, 0, 1, 2, 3, 4, 5, 6, 7, 8, 9, 10, 11, 12, 13, 14, 15, 16, 17], [0], []⟩, ⟨19, [], [50, 48], [18, 15, 17, 0, 1, 2, 3, 4, 5, 6, 7, 8, 9, 10, 11, 12, 13, 14, 15, 16, 17], [0], [0]⟩]) (.leaf))) (.leaf)))))))))))) Try.func86 (by kernel_rfl) (by kernel_rfl) (by kernel_rfl) Try.call86 (tbl_cons ok95 tbl_nil) (by intro a; kernel_rfl)
/-- slices.nextPowerOfTwo -/
noncomputable def F96 : Fun := ⟨96, [.v (.int .i64)], [(.int .u64)], d_slices_nextPowerOfTwo⟩
theorem ok96 : OkFun E F96 :=
  OkFun.of (fn := Try.f96) (rs := [.tmp 2]) ((84, F84) :: []) [] [] (.keep [0] (.two .none (.leaf) (.two .none (.leaf) (.leaf)))) Try.func96 (by kernel_rfl) (by kernel_rfl) (by kernel_rfl) Try.call96 (tbl_cons ok84 tbl_nil) (by intro a; kernel_rfl)
/-- (*slices.xorshift).Next -/
noncomputable def F97 : Fun := ⟨97, [.m (.optr (.int .u64))], [(.int .u64)], d_slices_xorshift_Next⟩
theorem ok97 : OkFun E F97 :=
  OkFun.of (fn := Try.f97) (rs := [.tmp 2]) ([]) [] [] (.two .none (.leaf) (.two .none (.draw [⟨0, [3], [0], [], [500000], []⟩, ⟨1, [4], [3], [0], [0], []⟩, ⟨2, [5], [4], [1], [0], []⟩, ⟨3, [6], [0], [], [500000], []⟩, ⟨4, [7], [6], [3], [0], []⟩, ⟨5, [8], [7], [4], [0], []⟩, ⟨6, [9], [8], [5], [], []⟩, ⟨7, [10], [5, 9], [2, 6], [], []⟩, ⟨8, [11], [3], [0, 0, 1, 2, 3, 4, 5, 6, 7], [0], []⟩, ⟨9, [], [11, 10], [8, 7, 0, 1, 2, 3, 4, 5, 6, 7], [0], [0]⟩]) (.two .none (.draw [⟨0, [12], [0], [], [500000], []⟩, ⟨1, [13], [12], [0], [0], []⟩, ⟨2, [14], [13], [1], [0], []⟩, ⟨3, [15], [0], [], [500000], []⟩, ⟨4, [16], [15], [3], [0], []⟩, ⟨5, [17], [16], [4], [0], []⟩, ⟨6, [18], [17], [5], [], []⟩, ⟨7, [19], [14, 18], [2, 6], [], []⟩, ⟨8, [20], [12], [0, 0, 1, 2, 3, 4, 5, 6, 7], [0], []⟩, ⟨9, [], [20, 19], [8, 7, 0, 1, 2, 3, 4, 5, 6, 7], [0], [0]⟩]) (.two .none (.draw [⟨0, [21], [0], [], [500000], []⟩, ⟨1, [22], [21], [0], [0], []⟩, ⟨2, [23], [22], [1], [0], []⟩, ⟨3, [24], [0], [], [500000], []⟩, ⟨4, [25], [24], [3], [0], []⟩, ⟨5, [26], [25], [4], [0], []⟩, ⟨6, [27], [26], [5], [], []⟩, ⟨7, [28], [23, 27], [2, 6], [], []⟩, ⟨8, [29], [21], [0, 0, 1, 2, 3, 4, 5, 6, 7], [0], []⟩, ⟨9, [], [29, 28], [8, 7, 0, 1, 2, 3, 4, 5, 6, 7], [0], [0]⟩]) (.two .none (.leaf) (.leaf)))))) Try.func97 (by kernel_rfl) (by kernel_rfl) (by kernel_rfl) Try.call97 tbl_nil (by intro a; kernel_rfl)
/-- slices.breakPatternsOrdered[int] -/
noncomputable def F87 : Fun := ⟨87, [.m (.osl (.int .i64)), .v (.int .i64), .v (.int .i64)], [], d_slices_breakPatternsOrdered_int⟩
theorem ok87 : OkFun E F87 :=
  OkFun.of (fn := Try.f87) (rs := []) ((97, F97) :: (96, F96) :: []) [(7, (.int .u64))] [] (.keep [1, 2] (.two .none (.leaf) (.two .none (.leaf) (.two .none (.two .none (.leaf) (.two .none (.leaf) (.two .none (.leaf) (.one (.keep [6, 8] (.loop ⟨[(0, .s (.ref 0 [])), (7, .s (.ref 7 [])), (9, .v (.int .i64))], [(0, (.osl (.int .i64))), (7, (.optr (.int .u64)))]⟩ (.x 0 ⟨[(0, .s (.ref 0 []))], [(0, (.osl (.int .i64)))]⟩) (.two .none (.two .none (.leaf) (.two .none (.leaf) (.leaf))) (.two (.x [9] ⟨[(0, .s (.ref 0 [])), (7, .s (.ref 7 []))], [(0, (.osl (.int .i64))), (7, (.optr (.int .u64)))]⟩) (.one (.two .none (.leaf) (.two (.x [] ⟨[(0, .s (.ref 0 [])), (7, .s (.ref 7 [])), (10, .v (.int .i64))], [(0, (.osl (.int .i64))), (7, (.optr (.int .u64)))]⟩) (.two .none (.leaf) (.two .none (.leaf) (.leaf))) (.draw [⟨0, [47], [0], [], [500000], []⟩, ⟨1, [48], [9], [], [], []⟩, ⟨2, [49], [0], [], [500000], []⟩, ⟨3, [50], [1], [], [], []⟩, ⟨4, [51], [10], [], [], []⟩, ⟨5, [52], [50, 51], [3, 4], [], []⟩, ⟨6, [53], [0], [], [500000], []⟩, ⟨7, [54], [1], [], [], []⟩, ⟨8, [55], [10], [], [], []⟩, ⟨9, [56], [54, 55], [7, 8], [], []⟩, ⟨10, [57], [53, 56], [6, 9], [0], []⟩, ⟨11, [58], [57], [10], [0], []⟩, ⟨12, [59], [0], [], [500000], []⟩, ⟨13, [60], [9], [], [], []⟩, ⟨14, [61], [59, 60], [12, 13], [0], []⟩, ⟨15, [62], [61], [14], [0], []⟩, ⟨16, [63], [47, 48], [0, 1, 0, 1, 6, 7, 8, 9, 10, 11, 15], [0], []⟩, ⟨17, [], [63, 58], [16, 11, 0, 1, 6, 7, 8, 9, 10, 11, 15], [0], [0]⟩, ⟨18, [64], [49, 52], [2, 5, 0, 1, 2, 3, 4, 5, 6, 7, 8, 9, 10, 11, 12, 13, 14, 15, 16, 17], [0], []⟩, ⟨19, [], [64, 62], [18, 15, 17, 0, 1, 2, 3, 4, 5, 6, 7, 8, 9, 10, 11, 12, 13, 14, 15, 16, 17], [0], [0]⟩])))) (.leaf))))))))) (.leaf))))) Try.func87 (by kernel_rfl) (by kernel_rfl) (by kernel_rfl) Try.call87 (tbl_cons ok97 (tbl_cons ok96 tbl_nil)) (by intro a; kernel_rfl)
/-- slices.order2Ordered[int] -/
noncomputable def F100 : Fun := ⟨100, [.v (.slc .bor (.int .i64)), .v (.int .i64), .v (.int .i64), .m (.optr (.int .i64))], [(.int .i64), (.int .i64)], d_slices_order2Ordered_int⟩
theorem ok100 : OkFun E F100 :=
  OkFun.of (fn := Try.f100) (rs := [.tmp 8, .tmp 9]) ((76, F76) :: []) [] [] (.keep [0, 1, 2] (.two .none (.leaf) (.two .none (.two .none (.draw [⟨0, [10], [0], [], [], []⟩, ⟨1, [11], [2], [], [], []⟩, ⟨2, [12], [10, 11], [0, 1], [], []⟩, ⟨3, [13], [12], [2], [], []⟩, ⟨4, [14], [0], [], [], []⟩, ⟨5, [15], [1], [], [], []⟩, ⟨6, [16], [14, 15], [4, 5], [], []⟩, ⟨7, [17], [16], [6], [], []⟩, ⟨8, [18], [13, 17], [3, 7], [], []⟩]) (.two .none (.two .none (.leaf) (.two .none (.leaf) (.leaf))) (.leaf))) (.two .none (.leaf) (.leaf))))) Try.func100 (by kernel_rfl) (by kernel_rfl) (by kernel_rfl) Try.call100 (tbl_cons ok76 tbl_nil) (by intro a; kernel_rfl)
/-- slices.medianOrdered[int] -/
noncomputable def F99 : Fun := ⟨99, [.v (.slc .bor (.int .i64)), .v (.int .i64), .v (.int .i64), .v (.int .i64), .m (.optr (.int .i64))], [(.int .i64)], d_slices_medianOrdered_int⟩
theorem ok99 : OkFun E F99 :=
  OkFun.of (fn := Try.f99) (rs := [.tmp 10]) ((100, F100) :: []) [] [] (.keep [0] (.two .none (.leaf) (.two .none (.leaf) (.two .none (.leaf) (.two .none (.leaf) (.two .none (.leaf) (.leaf))))))) Try.func99 (by kernel_rfl) (by kernel_rfl) (by kernel_rfl) Try.call99 (tbl_cons ok100 tbl_nil) (by intro a; kernel_rfl)
/-- slices.medianAdjacentOrdered[int] -/
noncomputable def F98 : Fun := ⟨98, [.v (.slc .bor (.int .i64)), .v (.int .i64), .m (.optr (.int .i64))], [(.int .i64)], d_slices_medianAdjacentOrdered_int⟩
theorem ok98 : OkFun E F98 :=
  OkFun.of (fn := Try.f98) (rs := [.tmp 6]) ((99, F99) :: []) [] [] (.keep [0, 1] (.two .none (.leaf) (.two .none (.leaf) (.leaf)))) Try.func98 (by kernel_rfl) (by kernel_rfl) (by kernel_rfl) Try.call98 (tbl_cons ok99 tbl_nil) (by intro a; kernel_rfl)
/-- slices.choosePivotOrdered[int] -/
noncomputable def F88 : Fun := ⟨88, [.v (.slc .bor (.int .i64)), .v (.int .i64), .v (.int .i64)], [(.int .i64), (.int .i64)], d_slices_choosePivotOrdered_int⟩
theorem ok88 : OkFun E F88 :=
  OkFun.of (fn := Try.f88) (rs := [.tmp 6, .tmp 7]) ((99, F99) :: (98, F98) :: []) [(9, (.int .i64))] [] (.keep [0, 1, 2] (.two .none (.leaf) (.two .none (.leaf) (.two .none (.leaf) (.two .none (.leaf) (.two .none (.leaf) (.two .none (.leaf) (.two (.x [] ⟨[(9, .s (.ref 9 [])), (11, .v (.int .i64))], [(9, (.optr (.int .i64)))]⟩) (.two .none (.leaf) (.two .none (.two (.x [] ⟨[(9, .s (.ref 9 [])), (10, .v (.int .i64)), (11, .v (.int .i64)), (12, .v (.int .i64))], [(9, (.optr (.int .i64)))]⟩) (.two .none (.leaf) (.two .none (.two .none (.leaf) (.two .none (.leaf) (.leaf))) (.leaf))) (.leaf)) (.leaf))) (.two .none (.leaf) (.one (.two .none (.leaf) (.two .none (.two .none (.leaf) (.leaf)) (.two .none (.leaf) (.two .none (.two .none (.leaf) (.leaf)) (.two .none (.leaf) (.leaf)))))))))))))))) Try.func88 (by kernel_rfl) (by kernel_rfl) (by kernel_rfl) Try.call88 (tbl_cons ok99 (tbl_cons ok98 tbl_nil)) (by intro a; kernel_rfl)
/-- slices.reverseRangeOrdered[int] -/
noncomputable def F89 : Fun := ⟨89, [.m (.osl (.int .i64)), .v (.int .i64), .v (.int .i64)], [], d_slices_reverseRangeOrdered_int⟩
theorem ok89 : OkFun E F89 :=
  OkFun.of (fn := Try.f89) (rs := []) ([]) [] [] (.keep [1, 2] (.two .none (.leaf) (.two .none (.leaf) (.one (.loop ⟨[(0, .s (.ref 0 [])), (6, .v (.int .i64)), (7, .v (.int .i64))], [(0, (.osl (.int .i64)))]⟩ (.x 0 ⟨[(0, .s (.ref 0 []))], [(0, (.osl (.int .i64)))]⟩) (.two .none (.two .none (.leaf) (.two .none (.leaf) (.leaf))) (.one (.two .none (.draw [⟨0, [14], [0], [], [500000], []⟩, ⟨1, [15], [6], [], [], []⟩, ⟨2, [16], [0], [], [500000], []⟩, ⟨3, [17], [7], [], [], []⟩, ⟨4, [18], [0], [], [500000], []⟩, ⟨5, [19], [7], [], [], []⟩, ⟨6, [20], [18, 19], [4, 5], [0], []⟩, ⟨7, [21], [20], [6], [0], []⟩, ⟨8, [22], [0], [], [500000], []⟩, ⟨9, [23], [6], [], [], []⟩, ⟨10, [24], [22, 23], [8, 9], [0], []⟩, ⟨11, [25], [24], [10], [0], []⟩, ⟨12, [26], [14, 15], [0, 1, 0, 1, 4, 5, 6, 7, 11], [0], []⟩, ⟨13, [], [26, 21], [12, 7, 0, 1, 4, 5, 6, 7, 11], [0], [0]⟩, ⟨14, [27], [16, 17], [2, 3, 0, 1, 2, 3, 4, 5, 6, 7, 8, 9, 10, 11, 12, 13], [0], []⟩, ⟨15, [], [27, 25], [14, 11, 13, 0, 1, 2, 3, 4, 5, 6, 7, 8, 9, 10, 11, 12, 13], [0], [0]⟩]) (.two .none (.leaf) (.leaf)))))))))) Try.func89 (by kernel_rfl) (by kernel_rfl) (by kernel_rfl) Try.call89 tbl_nil (by intro a; kernel_rfl)
/-- slices.partialInsertionSortOrdered[int] -/
noncomputable def F90 : Fun := ⟨90, [.m (.osl (.int .i64)), .v (.int .i64), .v (.int .i64)], [.bool], d_slices_partialInsertionSortOrdered_int⟩
theorem ok90 : OkFun E F90 :=
  OkFun.of (fn := Try.f90) (rs := [.tmp 6]) ((76, F76) :: []) [] [] (.keep [1, 2] (.two .none (.leaf) (.two .none (.leaf) (.two .none (.two .none (.leaf) (.one (.loop ⟨[(0, .s (.ref 0 [])), (7, .v (.int .i64)), (8, .v (.int .i64))], [(0, (.osl (.int .i64)))]⟩ (.xr 0 ⟨[(0, .s (.ref 0 []))], [(0, (.osl (.int .i64)))]⟩) (.two .none (.two .none (.leaf) (.two .none (.leaf) (.leaf))) (.two (.xr [8] ⟨[(0, .s (.ref 0 [])), (7, .v (.int .i64))], [(0, (.osl (.int .i64)))]⟩) (.one (.two .none (.one (.loop ⟨[(0, .s (.ref 0 [])), (7, .v (.int .i64))], [(0, (.osl (.int .i64)))]⟩ (.x 2 ⟨[(0, .s (.ref 0 [])), (7, .v (.int .i64))], [(0, (.osl (.int .i64)))]⟩) (.two (.xr [7] ⟨[(0, .s (.ref 0 []))], [(0, (.osl (.int .i64)))]⟩) (.two .none (.draw [⟨0, [17], [7], [], [], []⟩, ⟨1, [18], [2], [], [], []⟩, ⟨2, [19], [17, 18], [0, 1], [], []⟩, ⟨3, [20], [19], [2], [], []⟩, ⟨4, [21], [0, 20], [3], [500000], []⟩, ⟨5, [22], [7, 20], [3], [], []⟩, ⟨6, [23], [21, 22, 20], [4, 5, 3], [0], []⟩, ⟨7, [24], [23, 20], [6, 3], [0], []⟩, ⟨8, [25], [0, 20], [3], [500000], []⟩, ⟨9, [26], [7, 20], [3], [], []⟩, ⟨10, [27], [26, 20], [9, 3], [], []⟩, ⟨11, [28], [25, 27, 20], [8, 10, 3], [0], []⟩, ⟨12, [29], [28, 20], [11, 3], [0], []⟩, ⟨13, [30], [24, 29, 20], [7, 12, 3, 3], [], []⟩, ⟨14, [31], [30, 20], [13, 3], [], []⟩, ⟨15, [32], [20, 31], [3, 14], [], []⟩]) (.two .none (.leaf) (.leaf))) (.one (.leaf))))) (.two .none (.two .none (.leaf) (.two .none (.two .none (.leaf) (.leaf)) (.leaf))) (.two .none (.two .none (.leaf) (.two .none (.two .none (.leaf) (.leaf)) (.leaf))) (.two .none (.draw [⟨0, [42], [0], [], [500000], []⟩, ⟨1, [43], [7], [], [], []⟩, ⟨2, [44], [0], [], [500000], []⟩, ⟨3, [45], [7], [], [], []⟩, ⟨4, [46], [45], [3], [], []⟩, ⟨5, [47], [0], [], [500000], []⟩, ⟨6, [48], [7], [], [], []⟩, ⟨7, [49], [48], [6], [], []⟩, ⟨8, [50], [47, 49], [5, 7], [0], []⟩, ⟨9, [51], [50], [8], [0], []⟩, ⟨10, [52], [0], [], [500000], []⟩, ⟨11, [53], [7], [], [], []⟩, ⟨12, [54], [52, 53], [10, 11], [0], []⟩, ⟨13, [55], [54], [12], [0], []⟩, ⟨14, [56], [42, 43], [0, 1, 0, 1, 5, 6, 7, 8, 9, 13], [0], []⟩, ⟨15, [], [56, 51], [14, 9, 0, 1, 5, 6, 7, 8, 9, 13], [0], [0]⟩, ⟨16, [57], [44, 46], [2, 4, 0, 1, 2, 3, 4, 5, 6, 7, 8, 9, 10, 11, 12, 13, 14, 15], [0], []⟩, ⟨17, [], [57, 55], [16, 13, 15, 0, 1, 2, 3, 4, 5, 6, 7, 8, 9, 10, 11, 12, 13, 14, 15], [0], [0]⟩]) (.two (.x [7] ⟨[(0, .s (.ref 0 []))], [(0, (.osl (.int .i64)))]⟩) (.two .none (.leaf) (.two .none (.two .none (.leaf) (.one (.loop ⟨[(0, .s (.ref 0 [])), (9, .v (.int .i64))], [(0, (.osl (.int .i64)))]⟩ (.x 4 ⟨[(0, .s (.ref 0 []))], [(0, (.osl (.int .i64)))]⟩) (.two .none (.two .none (.leaf) (.two .none (.leaf) (.leaf))) (.two .none (.one (.two .none (.two .none (.draw [⟨0, [68], [0], [], [500000], []⟩, ⟨1, [69], [9], [], [], []⟩, ⟨2, [70], [68, 69], [0, 1], [0], []⟩, ⟨3, [71], [70], [2], [0], []⟩, ⟨4, [72], [0], [], [500000], []⟩, ⟨5, [73], [9], [], [], []⟩, ⟨6, [74], [73], [5], [], []⟩, ⟨7, [75], [72, 74], [4, 6], [0], []⟩, ⟨8, [76], [75], [7], [0], []⟩, ⟨9, [77], [71, 76], [3, 8], [], []⟩, ⟨10, [78], [77], [9], [], []⟩]) (.two .none (.leaf) (.leaf))) (.draw [⟨0, [79], [0], [], [500000], []⟩, ⟨1, [80], [9], [], [], []⟩, ⟨2, [81], [0], [], [500000], []⟩, ⟨3, [82], [9], [], [], []⟩, ⟨4, [83], [82], [3], [], []⟩, ⟨5, [84], [0], [], [500000], []⟩, ⟨6, [85], [9], [], [], []⟩, ⟨7, [86], [85], [6], [], []⟩, ⟨8, [87], [84, 86], [5, 7], [0], []⟩, ⟨9, [88], [87], [8], [0], []⟩, ⟨10, [89], [0], [], [500000], []⟩, ⟨11, [90], [9], [], [], []⟩, ⟨12, [91], [89, 90], [10, 11], [0], []⟩, ⟨13, [92], [91], [12], [0], []⟩, ⟨14, [93], [79, 80], [0, 1, 0, 1, 5, 6, 7, 8, 9, 13], [0], []⟩, ⟨15, [], [93, 88], [14, 9, 0, 1, 5, 6, 7, 8, 9, 13], [0], [0]⟩, ⟨16, [94], [81, 83], [2, 4, 0, 1, 2, 3, 4, 5, 6, 7, 8, 9, 10, 11, 12, 13, 14, 15], [0], []⟩, ⟨17, [], [94, 92], [16, 13, 15, 0, 1, 2, 3, 4, 5, 6, 7, 8, 9, 10, 11, 12, 13, 14, 15], [0], [0]⟩]))) (.leaf)))))) (.leaf))) (.two .none (.leaf) (.two .none (.two .none (.leaf) (.one (.keep [7] (.loop ⟨[(0, .s (.ref 0 [])), (10, .v (.int .i64))], [(0, (.osl (.int .i64)))]⟩ (.x 6 ⟨[(0, .s (.ref 0 []))], [(0, (.osl (.int .i64)))]⟩) (.two .none (.two .none (.leaf) (.two .none (.leaf) (.leaf))) (.two .none (.one (.two .none (.two .none (.draw [⟨0, [106], [0], [], [500000], []⟩, ⟨1, [107], [10], [], [], []⟩, ⟨2, [108], [106, 107], [0, 1], [0], []⟩, ⟨3, [109], [108], [2], [0], []⟩, ⟨4, [110], [0], [], [500000], []⟩, ⟨5, [111], [10], [], [], []⟩, ⟨6, [112], [111], [5], [], []⟩, ⟨7, [113], [110, 112], [4, 6], [0], []⟩, ⟨8, [114], [113], [7], [0], []⟩, ⟨9, [115], [109, 114], [3, 8], [], []⟩, ⟨10, [116], [115], [9], [], []⟩]) (.two .none (.leaf) (.leaf))) (.draw [⟨0, [117], [0], [], [500000], []⟩, ⟨1, [118], [10], [], [], []⟩, ⟨2, [119], [0], [], [500000], []⟩, ⟨3, [120], [10], [], [], []⟩, ⟨4, [121], [120], [3], [], []⟩, ⟨5, [122], [0], [], [500000], []⟩, ⟨6, [123], [10], [], [], []⟩, ⟨7, [124], [123], [6], [], []⟩, ⟨8, [125], [122, 124], [5, 7], [0], []⟩, ⟨9, [126], [125], [8], [0], []⟩, ⟨10, [127], [0], [], [500000], []⟩, ⟨11, [128], [10], [], [], []⟩, ⟨12, [129], [127, 128], [10, 11], [0], []⟩, ⟨13, [130], [129], [12], [0], []⟩, ⟨14, [131], [117, 118], [0, 1, 0, 1, 5, 6, 7, 8, 9, 13], [0], []⟩, ⟨15, [], [131, 126], [14, 9, 0, 1, 5, 6, 7, 8, 9, 13], [0], [0]⟩, ⟨16, [132], [119, 121], [2, 4, 0, 1, 2, 3, 4, 5, 6, 7, 8, 9, 10, 11, 12, 13, 14, 15], [0], []⟩, ⟨17, [], [132, 130], [16, 13, 15, 0, 1, 2, 3, 4, 5, 6, 7, 8, 9, 10, 11, 12, 13, 14, 15], [0], [0]⟩]))) (.leaf))))))) (.leaf))))))))) (.leaf)))))) (.two .none (.leaf) (.leaf)))))) Try.func90 (by kernel_rfl) (by kernel_rfl) (by kernel_rfl) Try.call90 (tbl_cons ok76 tbl_nil) (by intro a; kernel_rfl)
/-- slices.partitionEqualOrdered[int] -/
noncomputable def F91 : Fun := ⟨91, [.m (.osl (.int .i64)), .v (.int .i64), .v (.int .i64), .v (.int .i64)], [(.int .i64)], d_slices_partitionEqualOrdered_int⟩
theorem ok91 : OkFun E F91 :=
  OkFun.of (fn := Try.f91) (rs := [.tmp 8]) ((76, F76) :: []) [] [] (.keep [1, 2, 3] (.two .none (.leaf) (.two .none (.draw [⟨0, [11], [0], [], [500000], []⟩, ⟨1, [12], [1], [], [], []⟩, ⟨2, [13], [0], [], [500000], []⟩, ⟨3, [14], [3], [], [], []⟩, ⟨4, [15], [0], [], [500000], []⟩, ⟨5, [16], [3], [], [], []⟩, ⟨6, [17], [15, 16], [4, 5], [0], []⟩, ⟨7, [18], [17], [6], [0], []⟩, ⟨8, [19], [0], [], [500000], []⟩, ⟨9, [20], [1], [], [], []⟩, ⟨10, [21], [19, 20], [8, 9], [0], []⟩, ⟨11, [22], [21], [10], [0], []⟩, ⟨12, [23], [11, 12], [0, 1, 0, 1, 4, 5, 6, 7, 11], [0], []⟩, ⟨13, [], [23, 18], [12, 7, 0, 1, 4, 5, 6, 7, 11], [0], [0]⟩, ⟨14, [24], [13, 14], [2, 3, 0, 1, 2, 3, 4, 5, 6, 7, 8, 9, 10, 11, 12, 13], [0], []⟩, ⟨15, [], [24, 22], [14, 11, 13, 0, 1, 2, 3, 4, 5, 6, 7, 8, 9, 10, 11, 12, 13], [0], [0]⟩]) (.two .none (.leaf) (.two .none (.one (.loop ⟨[(0, .s (.ref 0 [])), (9, .v (.int .i64)), (10, .v (.int .i64))], [(0, (.osl (.int .i64)))]⟩ (.x 0 ⟨[(0, .s (.ref 0 [])), (9, .v (.int .i64))], [(0, (.osl (.int .i64)))]⟩) (.one (.two .none (.one (.keep [10] (.loop ⟨[(0, .s (.ref 0 [])), (9, .v (.int .i64))], [(0, (.osl (.int .i64)))]⟩ (.x 2 ⟨[(0, .s (.ref 0 [])), (9, .v (.int .i64))], [(0, (.osl (.int .i64)))]⟩) (.two (.xr [9] ⟨[(0, .s (.ref 0 []))], [(0, (.osl (.int .i64)))]⟩) (.two .none (.draw [⟨0, [29], [9], [], [], []⟩, ⟨1, [30], [10], [], [], []⟩, ⟨2, [31], [29, 30], [0, 1], [], []⟩, ⟨3, [32], [31], [2], [], []⟩, ⟨4, [33], [0, 32], [3], [500000], []⟩, ⟨5, [34], [1, 32], [3], [], []⟩, ⟨6, [35], [33, 34, 32], [4, 5, 3], [0], []⟩, ⟨7, [36], [35, 32], [6, 3], [0], []⟩, ⟨8, [37], [0, 32], [3], [500000], []⟩, ⟨9, [38], [9, 32], [3], [], []⟩, ⟨10, [39], [37, 38, 32], [8, 9, 3], [0], []⟩, ⟨11, [40], [39, 32], [10, 3], [0], []⟩, ⟨12, [41], [36, 40, 32], [7, 11, 3, 3], [], []⟩, ⟨13, [42], [41, 32], [12, 3], [], []⟩, ⟨14, [43], [32, 42], [3, 13], [], []⟩]) (.two .none (.leaf) (.leaf))) (.one (.leaf)))))) (.two .none (.one (.keep [9] (.loop ⟨[(0, .s (.ref 0 [])), (10, .v (.int .i64))], [(0, (.osl (.int .i64)))]⟩ (.x 4 ⟨[(0, .s (.ref 0 [])), (10, .v (.int .i64))], [(0, (.osl (.int .i64)))]⟩) (.two (.xr [10] ⟨[(0, .s (.ref 0 []))], [(0, (.osl (.int .i64)))]⟩) (.two .none (.draw [⟨0, [46], [9], [], [], []⟩, ⟨1, [47], [10], [], [], []⟩, ⟨2, [48], [46, 47], [0, 1], [], []⟩, ⟨3, [49], [48], [2], [], []⟩, ⟨4, [50], [0, 49], [3], [500000], []⟩, ⟨5, [51], [1, 49], [3], [], []⟩, ⟨6, [52], [50, 51, 49], [4, 5, 3], [0], []⟩, ⟨7, [53], [52, 49], [6, 3], [0], []⟩, ⟨8, [54], [0, 49], [3], [500000], []⟩, ⟨9, [55], [10, 49], [3], [], []⟩, ⟨10, [56], [54, 55, 49], [8, 9, 3], [0], []⟩, ⟨11, [57], [56, 49], [10, 3], [0], []⟩, ⟨12, [58], [53, 57, 49], [7, 11, 3, 3], [], []⟩, ⟨13, [59], [49, 58], [3, 12], [], []⟩]) (.two .none (.leaf) (.leaf))) (.one (.leaf)))))) (.two .none (.two .none (.leaf) (.two .none (.leaf) (.leaf))) (.two .none (.draw [⟨0, [65], [0], [], [500000], []⟩, ⟨1, [66], [9], [], [], []⟩, ⟨2, [67], [0], [], [500000], []⟩, ⟨3, [68], [10], [], [], []⟩, ⟨4, [69], [0], [], [500000], []⟩, ⟨5, [70], [10], [], [], []⟩, ⟨6, [71], [69, 70], [4, 5], [0], []⟩, ⟨7, [72], [71], [6], [0], []⟩, ⟨8, [73], [0], [], [500000], []⟩, ⟨9, [74], [9], [], [], []⟩, ⟨10, [75], [73, 74], [8, 9], [0], []⟩, ⟨11, [76], [75], [10], [0], []⟩, ⟨12, [77], [65, 66], [0, 1, 0, 1, 4, 5, 6, 7, 11], [0], []⟩, ⟨13, [], [77, 72], [12, 7, 0, 1, 4, 5, 6, 7, 11], [0], [0]⟩, ⟨14, [78], [67, 68], [2, 3, 0, 1, 2, 3, 4, 5, 6, 7, 8, 9, 10, 11, 12, 13], [0], []⟩, ⟨15, [], [78, 76], [14, 11, 13, 0, 1, 2, 3, 4, 5, 6, 7, 8, 9, 10, 11, 12, 13], [0], [0]⟩]) (.two .none (.leaf) (.leaf))))))))) (.two .none (.leaf) (.leaf))))))) Try.func91 (by kernel_rfl) (by kernel_rfl) (by kernel_rfl) Try.call91 (tbl_cons ok76 tbl_nil) (by intro a; kernel_rfl)
/-- slices.partitionOrdered[int] -/
noncomputable def F92 : Fun := ⟨92, [.m (.osl (.int .i64)), .v (.int .i64), .v (.int .i64), .v (.int .i64)], [(.int .i64), .bool], d_slices_partitionOrdered_int⟩
theorem ok92 : OkFun E F92 :=
  OkFun.of (fn := Try.f92) (rs := [.tmp 8, .tmp 9]) ((76, F76) :: []) [] [] (.keep [1, 2, 3] (.two .none (.leaf) (.two .none (.draw [⟨0, [12], [0], [], [500000], []⟩, ⟨1, [13], [1], [], [], []⟩, ⟨2, [14], [0], [], [500000], []⟩, ⟨3, [15], [3], [], [], []⟩, ⟨4, [16], [0], [], [500000], []⟩, ⟨5, [17], [3], [], [], []⟩, ⟨6, [18], [16, 17], [4, 5], [0], []⟩, ⟨7, [19], [18], [6], [0], []⟩, ⟨8, [20], [0], [], [500000], []⟩, ⟨9, [21], [1], [], [], []⟩, ⟨10, [22], [20, 21], [8, 9], [0], []⟩, ⟨11, [23], [22], [10], [0], []⟩, ⟨12, [24], [12, 13], [0, 1, 0, 1, 4, 5, 6, 7, 11], [0], []⟩, ⟨13, [], [24, 19], [12, 7, 0, 1, 4, 5, 6, 7, 11], [0], [0]⟩, ⟨14, [25], [14, 15], [2, 3, 0, 1, 2, 3, 4, 5, 6, 7, 8, 9, 10, 11, 12, 13], [0], []⟩, ⟨15, [], [25, 23], [14, 11, 13, 0, 1, 2, 3, 4, 5, 6, 7, 8, 9, 10, 11, 12, 13], [0], [0]⟩]) (.two .none (.leaf) (.two .none (.one (.keep [11] (.loop ⟨[(0, .s (.ref 0 [])), (10, .v (.int .i64))], [(0, (.osl (.int .i64)))]⟩ (.x 0 ⟨[(0, .s (.ref 0 [])), (10, .v (.int .i64))], [(0, (.osl (.int .i64)))]⟩) (.two (.xr [10] ⟨[(0, .s (.ref 0 []))], [(0, (.osl (.int .i64)))]⟩) (.two .none (.draw [⟨0, [30], [10], [], [], []⟩, ⟨1, [31], [11], [], [], []⟩, ⟨2, [32], [30, 31], [0, 1], [], []⟩, ⟨3, [33], [32], [2], [], []⟩, ⟨4, [34], [0, 33], [3], [500000], []⟩, ⟨5, [35], [10, 33], [3], [], []⟩, ⟨6, [36], [34, 35, 33], [4, 5, 3], [0], []⟩, ⟨7, [37], [36, 33], [6, 3], [0], []⟩, ⟨8, [38], [0, 33], [3], [500000], []⟩, ⟨9, [39], [1, 33], [3], [], []⟩, ⟨10, [40], [38, 39, 33], [8, 9, 3], [0], []⟩, ⟨11, [41], [40, 33], [10, 3], [0], []⟩, ⟨12, [42], [37, 41, 33], [7, 11, 3, 3], [], []⟩, ⟨13, [43], [33, 42], [3, 12], [], []⟩]) (.two .none (.leaf) (.leaf))) (.one (.leaf)))))) (.two .none (.one (.keep [10] (.loop ⟨[(0, .s (.ref 0 [])), (11, .v (.int .i64))], [(0, (.osl (.int .i64)))]⟩ (.x 2 ⟨[(0, .s (.ref 0 [])), (11, .v (.int .i64))], [(0, (.osl (.int .i64)))]⟩) (.two (.xr [11] ⟨[(0, .s (.ref 0 []))], [(0, (.osl (.int .i64)))]⟩) (.two .none (.draw [⟨0, [46], [10], [], [], []⟩, ⟨1, [47], [11], [], [], []⟩, ⟨2, [48], [46, 47], [0, 1], [], []⟩, ⟨3, [49], [48], [2], [], []⟩, ⟨4, [50], [0, 49], [3], [500000], []⟩, ⟨5, [51], [11, 49], [3], [], []⟩, ⟨6, [52], [50, 51, 49], [4, 5, 3], [0], []⟩, ⟨7, [53], [52, 49], [6, 3], [0], []⟩, ⟨8, [54], [0, 49], [3], [500000], []⟩, ⟨9, [55], [1, 49], [3], [], []⟩, ⟨10, [56], [54, 55, 49], [8, 9, 3], [0], []⟩, ⟨11, [57], [56, 49], [10, 3], [0], []⟩, ⟨12, [58], [53, 57, 49], [7, 11, 3, 3], [], []⟩, ⟨13, [59], [58, 49], [12, 3], [], []⟩, ⟨14, [60], [49, 59], [3, 13], [], []⟩]) (.two .none (.leaf) (.leaf))) (.one (.leaf)))))) (.two .none (.two .none (.leaf) (.two .none (.two .none (.draw [⟨0, [66], [0], [], [500000], []⟩, ⟨1, [67], [11], [], [], []⟩, ⟨2, [68], [0], [], [500000], []⟩, ⟨3, [69], [1], [], [], []⟩, ⟨4, [70], [0], [], [500000], []⟩, ⟨5, [71], [1], [], [], []⟩, ⟨6, [72], [70, 71], [4, 5], [0], []⟩, ⟨7, [73], [72], [6], [0], []⟩, ⟨8, [74], [0], [], [500000], []⟩, ⟨9, [75], [11], [], [], []⟩, ⟨10, [76], [74, 75], [8, 9], [0], []⟩, ⟨11, [77], [76], [10], [0], []⟩, ⟨12, [78], [66, 67], [0, 1, 0, 1, 4, 5, 6, 7, 11], [0], []⟩, ⟨13, [], [78, 73], [12, 7, 0, 1, 4, 5, 6, 7, 11], [0], [0]⟩, ⟨14, [79], [68, 69], [2, 3, 0, 1, 2, 3, 4, 5, 6, 7, 8, 9, 10, 11, 12, 13], [0], []⟩, ⟨15, [], [79, 77], [14, 11, 13, 0, 1, 2, 3, 4, 5, 6, 7, 8, 9, 10, 11, 12, 13], [0], [0]⟩]) (.two .none (.leaf) (.leaf))) (.leaf))) (.two .none (.draw [⟨0, [81], [0], [], [500000], []⟩, ⟨1, [82], [10], [], [], []⟩, ⟨2, [83], [0], [], [500000], []⟩, ⟨3, [84], [11], [], [], []⟩, ⟨4, [85], [0], [], [500000], []⟩, ⟨5, [86], [11], [], [], []⟩, ⟨6, [87], [85, 86], [4, 5], [0], []⟩, ⟨7, [88], [87], [6], [0], []⟩, ⟨8, [89], [0], [], [500000], []⟩, ⟨9, [90], [10], [], [], []⟩, ⟨10, [91], [89, 90], [8, 9], [0], []⟩, ⟨11, [92], [91], [10], [0], []⟩, ⟨12, [93], [81, 82], [0, 1, 0, 1, 4, 5, 6, 7, 11], [0], []⟩, ⟨13, [], [93, 88], [12, 7, 0, 1, 4, 5, 6, 7, 11], [0], [0]⟩, ⟨14, [94], [83, 84], [2, 3, 0, 1, 2, 3, 4, 5, 6, 7, 8, 9, 10, 11, 12, 13], [0], []⟩, ⟨15, [], [94, 92], [14, 11, 13, 0, 1, 2, 3, 4, 5, 6, 7, 8, 9, 10, 11, 12, 13], [0], [0]⟩]) (.two .none (.leaf) (.two .none (.leaf) (.two .none (.one (.loop ⟨[(0, .s (.ref 0 [])), (10, .v (.int .i64)), (11, .v (.int .i64))], [(0, (.osl (.int .i64)))]⟩ (.x 4 ⟨[(0, .s (.ref 0 [])), (11, .v (.int .i64))], [(0, (.osl (.int .i64)))]⟩) (.one (.two .none (.one (.keep [11] (.loop ⟨[(0, .s (.ref 0 [])), (10, .v (.int .i64))], [(0, (.osl (.int .i64)))]⟩ (.x 6 ⟨[(0, .s (.ref 0 [])), (10, .v (.int .i64))], [(0, (.osl (.int .i64)))]⟩) (.two (.xr [10] ⟨[(0, .s (.ref 0 []))], [(0, (.osl (.int .i64)))]⟩) (.two .none (.draw [⟨0, [99], [10], [], [], []⟩, ⟨1, [100], [11], [], [], []⟩, ⟨2, [101], [99, 100], [0, 1], [], []⟩, ⟨3, [102], [101], [2], [], []⟩, ⟨4, [103], [0, 102], [3], [500000], []⟩, ⟨5, [104], [10, 102], [3], [], []⟩, ⟨6, [105], [103, 104, 102], [4, 5, 3], [0], []⟩, ⟨7, [106], [105, 102], [6, 3], [0], []⟩, ⟨8, [107], [0, 102], [3], [500000], []⟩, ⟨9, [108], [1, 102], [3], [], []⟩, ⟨10, [109], [107, 108, 102], [8, 9, 3], [0], []⟩, ⟨11, [110], [109, 102], [10, 3], [0], []⟩, ⟨12, [111], [106, 110, 102], [7, 11, 3, 3], [], []⟩, ⟨13, [112], [102, 111], [3, 12], [], []⟩]) (.two .none (.leaf) (.leaf))) (.one (.leaf)))))) (.two .none (.one (.keep [10] (.loop ⟨[(0, .s (.ref 0 [])), (11, .v (.int .i64))], [(0, (.osl (.int .i64)))]⟩ (.x 8 ⟨[(0, .s (.ref 0 [])), (11, .v (.int .i64))], [(0, (.osl (.int .i64)))]⟩) (.two (.xr [11] ⟨[(0, .s (.ref 0 []))], [(0, (.osl (.int .i64)))]⟩) (.two .none (.draw [⟨0, [115], [10], [], [], []⟩, ⟨1, [116], [11], [], [], []⟩, ⟨2, [117], [115, 116], [0, 1], [], []⟩, ⟨3, [118], [117], [2], [], []⟩, ⟨4, [119], [0, 118], [3], [500000], []⟩, ⟨5, [120], [11, 118], [3], [], []⟩, ⟨6, [121], [119, 120, 118], [4, 5, 3], [0], []⟩, ⟨7, [122], [121, 118], [6, 3], [0], []⟩, ⟨8, [123], [0, 118], [3], [500000], []⟩, ⟨9, [124], [1, 118], [3], [], []⟩, ⟨10, [125], [123, 124, 118], [8, 9, 3], [0], []⟩, ⟨11, [126], [125, 118], [10, 3], [0], []⟩, ⟨12, [127], [122, 126, 118], [7, 11, 3, 3], [], []⟩, ⟨13, [128], [127, 118], [12, 3], [], []⟩, ⟨14, [129], [118, 128], [3, 13], [], []⟩]) (.two .none (.leaf) (.leaf))) (.one (.leaf)))))) (.two .none (.two .none (.leaf) (.two .none (.leaf) (.leaf))) (.two .none (.draw [⟨0, [135], [0], [], [500000], []⟩, ⟨1, [136], [10], [], [], []⟩, ⟨2, [137], [0], [], [500000], []⟩, ⟨3, [138], [11], [], [], []⟩, ⟨4, [139], [0], [], [500000], []⟩, ⟨5, [140], [11], [], [], []⟩, ⟨6, [141], [139, 140], [4, 5], [0], []⟩, ⟨7, [142], [141], [6], [0], []⟩, ⟨8, [143], [0], [], [500000], []⟩, ⟨9, [144], [10], [], [], []⟩, ⟨10, [145], [143, 144], [8, 9], [0], []⟩, ⟨11, [146], [145], [10], [0], []⟩, ⟨12, [147], [135, 136], [0, 1, 0, 1, 4, 5, 6, 7, 11], [0], []⟩, ⟨13, [], [147, 142], [12, 7, 0, 1, 4, 5, 6, 7, 11], [0], [0]⟩, ⟨14, [148], [137, 138], [2, 3, 0, 1, 2, 3, 4, 5, 6, 7, 8, 9, 10, 11, 12, 13], [0], []⟩, ⟨15, [], [148, 146], [14, 11, 13, 0, 1, 2, 3, 4, 5, 6, 7, 8, 9, 10, 11, 12, 13], [0], [0]⟩]) (.two .none (.leaf) (.leaf))))))))) (.two .none (.draw [⟨0, [153], [0], [], [500000], []⟩, ⟨1, [154], [11], [], [], []⟩, ⟨2, [155], [0], [], [500000], []⟩, ⟨3, [156], [1], [], [], []⟩, ⟨4, [157], [0], [], [500000], []⟩, ⟨5, [158], [1], [], [], []⟩, ⟨6, [159], [157, 158], [4, 5], [0], []⟩, ⟨7, [160], [159], [6], [0], []⟩, ⟨8, [161], [0], [], [500000], []⟩, ⟨9, [162], [11], [], [], []⟩, ⟨10, [163], [161, 162], [8, 9], [0], []⟩, ⟨11, [164], [163], [10], [0], []⟩, ⟨12, [165], [153, 154], [0, 1, 0, 1, 4, 5, 6, 7, 11], [0], []⟩, ⟨13, [], [165, 160], [12, 7, 0, 1, 4, 5, 6, 7, 11], [0], [0]⟩, ⟨14, [166], [155, 156], [2, 3, 0, 1, 2, 3, 4, 5, 6, 7, 8, 9, 10, 11, 12, 13], [0], []⟩, ⟨15, [], [166, 164], [14, 11, 13, 0, 1, 2, 3, 4, 5, 6, 7, 8, 9, 10, 11, 12, 13], [0], [0]⟩]) (.two .none (.leaf) (.leaf)))))))))))))) Try.func92 (by kernel_rfl) (by kernel_rfl) (by kernel_rfl) Try.call92 (tbl_cons ok76 tbl_nil) (by intro a; kernel_rfl)
/-- slices.pdqsortOrdered[int] -/
noncomputable def F83n (n : Nat) : Fun := ⟨83, [.m (.osl (.int .i64)), .v (.int .i64), .v (.int .i64), .v (.int .i64)], [], r_slices_pdqsortOrdered_int n⟩
theorem ok83n : ∀ n, OkFun E (F83n n)
  | 0 => ⟨Try.call83, fun _ _ h => by cases h⟩
  | n + 1 =>
    OkFun.of (fn := Try.f83) (rs := []) ((83, F83n n) :: (92, F92) :: (91, F91) :: (90, F90) :: (89, F89) :: (88, F88) :: (87, F87) :: (86, F86) :: (85, F85) :: (76, F76) :: []) [] [] (.two .none (.leaf) (.two .none (.leaf) (.one (.loop ⟨[(0, .s (.ref 0 [])), (1, .v (.int .i64)), (2, .v (.int .i64)), (3, .v (.int .i64)), (8, .v .bool), (9, .v .bool)], [(0, (.osl (.int .i64)))]⟩ .r (.one (.two .none (.leaf) (.two .none (.two .none (.leaf) (.two .none (.two .none (.leaf) (.leaf)) (.leaf))) (.two .none (.two .none (.leaf) (.two .none (.two .none (.leaf) (.leaf)) (.leaf))) (.two (.x [1, 2, 8, 9, 10] ⟨[(0, .s (.ref 0 [])), (3, .v (.int .i64))], [(0, (.osl (.int .i64)))]⟩) (.two .none (.leaf) (.two .none (.two .none (.leaf) (.leaf)) (.leaf))) (.two .none (.leaf) (.two (.x [1, 2, 3, 8, 9, 10] ⟨[(0, .s (.ref 0 [])), (11, .v (.int .i64)), (12, .v (.int .i64))], [(0, (.osl (.int .i64)))]⟩) (.two .none (.leaf) (.two .none (.two .none (.leaf) (.two .none (.leaf) (.leaf))) (.leaf))) (.two (.xr [1, 2, 3, 8, 9, 10, 11] ⟨[(0, .s (.ref 0 []))], [(0, (.osl (.int .i64)))]⟩) (.two (.x [] ⟨[(0, .s (.ref 0 [])), (68, .v .bool)], [(0, (.osl (.int .i64)))]⟩) (.leaf) (.two .none (.two .none (.leaf) (.two .none (.leaf) (.leaf))) (.leaf))) (.two (.xr [2, 3, 10, 11] ⟨[(0, .s (.ref 0 [])), (1, .v (.int .i64))], [(0, (.osl (.int .i64)))]⟩) (.two (.x [1, 8, 9] ⟨[(0, .s (.ref 0 [])), (87, .v .bool)], [(0, (.osl (.int .i64)))]⟩) (.draw [⟨0, [73], [1], [], [], []⟩, ⟨1, [74], [73], [0], [], []⟩, ⟨2, [75], [74], [1], [], []⟩, ⟨3, [76], [0, 75], [2], [500000], []⟩, ⟨4, [77], [1, 75], [2], [], []⟩, ⟨5, [78], [77, 75], [4, 2], [], []⟩, ⟨6, [79], [76, 78, 75], [3, 5, 2], [0], []⟩, ⟨7, [80], [79, 75], [6, 2], [0], []⟩, ⟨8, [81], [0, 75], [2], [500000], []⟩, ⟨9, [82], [11, 75], [2], [], []⟩, ⟨10, [83], [81, 82, 75], [8, 9, 2], [0], []⟩, ⟨11, [84], [83, 75], [10, 2], [0], []⟩, ⟨12, [85], [80, 84, 75], [7, 11, 2, 2], [], []⟩, ⟨13, [86], [85, 75], [12, 2], [], []⟩, ⟨14, [87], [75, 86], [2, 13], [], []⟩]) (.two .none (.two .none (.leaf) (.two .none (.leaf) (.leaf))) (.leaf))) (.two .none (.leaf) (.two .none (.leaf) (.two .none (.leaf) (.two .none (.leaf) (.two .none (.leaf) (.two .none (.two .none (.leaf) (.two .none (.leaf) (.leaf))) (.two .none (.leaf) (.two .none (.leaf) (.leaf)))))))))))))))))))))) Try.func83 (by kernel_rfl) (by kernel_rfl) (by kernel_rfl) Try.call83 (tbl_cons (ok83n n) (tbl_cons ok92 (tbl_cons ok91 (tbl_cons ok90 (tbl_cons ok89 (tbl_cons ok88 (tbl_cons ok87 (tbl_cons ok86 (tbl_cons ok85 (tbl_cons ok76 tbl_nil)))))))))) (by intro a; kernel_rfl)
noncomputable def F83 : Fun := ⟨83, [.m (.osl (.int .i64)), .v (.int .i64), .v (.int .i64), .v (.int .i64)], [], d_slices_pdqsortOrdered_int⟩
theorem ok83 : OkFun E F83 := fixO_ok ok83n
/-- slices.Sort[[]int,int] -/
noncomputable def F79 : Fun := ⟨79, [.m (.osl (.int .i64))], [], d_slices_Sort_int_int⟩
theorem ok79 : OkFun E F79 :=
  OkFun.of (fn := Try.f79) (rs := []) ((84, F84) :: (83, F83) :: []) [] [] (.two .none (.leaf) (.leaf)) Try.func79 (by kernel_rfl) (by kernel_rfl) (by kernel_rfl) Try.call79 (tbl_cons ok84 (tbl_cons ok83 tbl_nil)) (by intro a; kernel_rfl)
noncomputable def F65 : Fun := ⟨65, [.v (.slc .bor (.int .i64))], [.bool], d_graph_twice⟩
theorem ok65 : OkFun E F65 := Tw.tw_ok rfl (sort := fun l => (d_slices_Sort_int_int (l, ())).map fun r => r.1) (fun zs ys h => by obtain ⟨r, hr, rfl⟩ := Option.map_eq_some_iff.1 h; exact ok79.2 (zs, ()) r hr)
/-- sparse/graph.Permuted$1 -/
noncomputable def F63x0 : Fun := ⟨63, [.v (.int .i64), .v (.ptr .imm (.st (.pr (.slc .bor (.slc .bor (.int .i64))) .nil)))], [.bool], d_graph_Permuted_1q_q0⟩
theorem ok63x0 : OkFun E F63x0 :=
  OkFun.of (fn := Try.f63) (rs := [.tmp 3]) ((64, F64) :: []) [] [] (.keep [0, 1] (.two .none (.leaf) (.two .none (.leaf) (.leaf)))) Try.func63 (by kernel_rfl) (by kernel_rfl) (by kernel_rfl) Try.call63 (tbl_cons ok64 tbl_nil) (by intro a; kernel_rfl)
/-- slices.IndexFunc[[]int,int] -/
noncomputable def F72x0 : Fun := ⟨72, [.v (.slc .bor (.int .i64)), .c 63 [(.ptr .imm (.st (.pr (.slc .bor (.slc .bor (.int .i64))) .nil)))]], [(.int .i64)], d_slices_IndexFunc_int_int_q0⟩
theorem ok72x0 : OkFun E F72x0 :=
  OkFun.of (fn := Try.f72) (rs := [.tmp 4]) ((63, F63x0) :: []) [] [] (.keep [0, 1] (.two .none (.leaf) (.two .none (.two .none (.leaf) (.one (.keep [7] (.loop ⟨[(8, .v (.int .i64))], []⟩ (.xr 0 ⟨[], []⟩) (.two .none (.leaf) (.two .none (.two .none (.leaf) (.leaf)) (.two .none (.one (.two .none (.leaf) (.two .none (.leaf) (.two .none (.two .none (.leaf) (.leaf)) (.leaf))))) (.leaf)))))))) (.two .none (.leaf) (.leaf))))) Try.func72 (by kernel_rfl) (by kernel_rfl) (by kernel_rfl) Try.call72 (tbl_cons ok63x0 tbl_nil) (by intro a; kernel_rfl)
/-- slices.ContainsFunc[[]int,int] -/
noncomputable def F62x0 : Fun := ⟨62, [.v (.slc .bor (.int .i64)), .c 63 [(.ptr .imm (.st (.pr (.slc .bor (.slc .bor (.int .i64))) .nil)))]], [.bool], d_slices_ContainsFunc_int_int_q0⟩
theorem ok62x0 : OkFun E F62x0 :=
  OkFun.of (fn := Try.f62) (rs := [.tmp 4]) ((72, F72x0) :: []) [] [] (.keep [0, 1] (.two .none (.leaf) (.two .none (.leaf) (.leaf)))) Try.func62 (by kernel_rfl) (by kernel_rfl) (by kernel_rfl) Try.call62 (tbl_cons ok72x0 tbl_nil) (by intro a; kernel_rfl)
/-- sparse/graph.Permuted -/
noncomputable def F51 : Fun := ⟨51, [.v (.st (.pr (.slc .bor (.slc .bor (.int .i64))) .nil)), .v (.slc .bor (.int .i64))], [(.int .i64)], d_graph_Permuted⟩
theorem ok51 : OkFun E F51 :=
  OkFun.of (fn := Try.f51) (rs := [.tmp 4]) ((65, F65) :: (43, F43) :: (62, F62x0) :: []) [(2, (.ptr .imm (.st (.pr (.slc .bor (.slc .bor (.int .i64))) .nil))))] [] (.keep [0, 1] (.two .none (.leaf) (.two .none (.leaf) (.two .none (.one (.two .none (.leaf) (.two .none (.two .none (.leaf) (.leaf)) (.two .none (.leaf) (.two .none (.two .none (.leaf) (.leaf)) (.two .none (.leaf) (.two .none (.two .none (.leaf) (.leaf)) (.leaf)))))))) (.two .none (.leaf) (.leaf)))))) Try.func51 (by kernel_rfl) (by kernel_rfl) (by kernel_rfl) Try.call51 (tbl_cons ok65 (tbl_cons ok43 (tbl_cons ok62x0 tbl_nil))) (by intro a; kernel_rfl)
/-- sparse/graph.NewSets -/
noncomputable def F69 : Fun := ⟨69, [.v (.int .i64)], [(.osl (.osl .bool))], d_graph_NewSets⟩
theorem ok69 : OkFun E F69 :=
  OkFun.of (fn := Try.f69) (rs := [.tmp 2]) ([]) [(6, (.osl (.osl .bool))), (15, (.osl .bool))] [] (.keep [0] (.two .none (.leaf) (.two .none (.leaf) (.two .none (.two .none (.leaf) (.one (.keep [8] (.loop ⟨[(3, .s (.ref 3 [])), (9, .v (.int .i64))], [(3, (.osl (.osl .bool)))]⟩ (.x 0 ⟨[(3, .s (.ref 3 []))], [(3, (.osl (.osl .bool)))]⟩) (.two .none (.leaf) (.two .none (.two .none (.leaf) (.leaf)) (.two .none (.one (.two .none (.leaf) (.leaf))) (.leaf)))))))) (.two .none (.leaf) (.leaf)))))) Try.func69 (by kernel_rfl) (by kernel_rfl) (by kernel_rfl) Try.call69 tbl_nil (by intro a; kernel_rfl)
/-- (sparse/graph.Sets).Join -/
noncomputable def F68 : Fun := ⟨68, [.m (.osl (.osl .bool)), .v (.int .i64), .v (.int .i64)], [], d_graph_Sets_Join⟩
theorem ok68 : OkFun E F68 :=
  OkFun.of (fn := Try.f68) (rs := []) ([]) [] [] (.keep [1, 2] (.two .none (.leaf) (.two .none (.draw [⟨0, [9], [0], [], [500000], []⟩, ⟨1, [10], [1], [], [], []⟩, ⟨2, [11], [9, 10], [0, 1], [0], []⟩, ⟨3, [12], [11], [2], [0], []⟩, ⟨4, [13], [2], [], [], []⟩, ⟨5, [14], [0], [], [500000], []⟩, ⟨6, [15], [2], [], [], []⟩, ⟨7, [16], [14, 15], [5, 6], [0], []⟩, ⟨8, [17], [16], [7], [0], []⟩, ⟨9, [18], [1], [], [], []⟩, ⟨10, [19], [12, 13], [3, 4, 0, 1, 2, 3, 4, 8], [0], []⟩, ⟨11, [], [19], [10, 0, 1, 2, 3, 4, 8], [0], [0]⟩, ⟨12, [20], [17, 18], [8, 9, 0, 1, 2, 3, 4, 5, 6, 7, 8, 9, 10, 11], [0], []⟩, ⟨13, [], [20], [12, 11, 0, 1, 2, 3, 4, 5, 6, 7, 8, 9, 10, 11], [0], [0]⟩]) (.leaf)))) Try.func68 (by kernel_rfl) (by kernel_rfl) (by kernel_rfl) Try.call68 tbl_nil (by intro a; kernel_rfl)
/-- (sparse/graph.Sets).List -/
noncomputable def F67 : Fun := ⟨67, [.v (.slc .bor (.slc .bor .bool)), .v (.int .i64)], [(.osl (.int .i64))], d_graph_Sets_List⟩
theorem ok67 : OkFun E F67 :=
  OkFun.of (fn := Try.f67) (rs := [.tmp 4]) ([]) [(5, (.osl (.int .i64)))] [] (.keep [0, 1] (.two .none (.leaf) (.two .none (.leaf) (.two .none (.two .none (.leaf) (.one (.keep [11, 12] (.loop ⟨[(5, .s (.ref 5 [])), (13, .v (.int .i64))], [(5, (.osl (.int .i64)))]⟩ (.x 0 ⟨[(5, .s (.ref 5 []))], [(5, (.osl (.int .i64)))]⟩) (.two .none (.leaf) (.two .none (.two .none (.leaf) (.leaf)) (.two (.x [13] ⟨[(5, .s (.ref 5 []))], [(5, (.osl (.int .i64)))]⟩) (.one (.two .none (.leaf) (.two .none (.leaf) (.two .none (.leaf) (.leaf))))) (.leaf)))))))) (.two .none (.leaf) (.leaf)))))) Try.func67 (by kernel_rfl) (by kernel_rfl) (by kernel_rfl) Try.call67 tbl_nil (by intro a; kernel_rfl)
/-- (sparse/graph.Sets).Graph -/
noncomputable def F70 : Fun := ⟨70, [.v (.slc .bor (.slc .bor .bool))], [(.st (.pr (.osl (.slc .imm (.int .i64))) .nil))], d_graph_Sets_Graph⟩
theorem ok70 : OkFun E F70 :=
  OkFun.of (fn := Try.f70) (rs := [.cell 2 35]) ((67, F67) :: []) [(2, (.st (.pr (.osl (.slc .imm (.int .i64))) .nil))), (7, (.osl (.slc .imm (.int .i64)))), (3, (.st (.pr (.osl (.slc .imm (.int .i64))) .nil)))] [(999999, 19)] (.keep [0] (.two .none (.leaf) (.two .none (.leaf) (.two .none (.two .none (.leaf) (.one (.keep [10] (.loop ⟨[(2, .s (.ref 2 [])), (3, .s (.ref 3 [])), (11, .v (.int .i64))], [(2, (.optr (.st (.pr (.osl (.slc .imm (.int .i64))) .nil)))), (3, (.optr (.st (.pr (.osl (.slc .imm (.int .i64))) .nil))))]⟩ (.x 0 ⟨[(2, .s (.ref 2 [])), (3, .s (.ref 3 []))], [(2, (.optr (.st (.pr (.osl (.slc .imm (.int .i64))) .nil)))), (3, (.optr (.st (.pr (.osl (.slc .imm (.int .i64))) .nil))))]⟩) (.two .none (.leaf) (.two .none (.two .none (.leaf) (.leaf)) (.two .none (.one (.two .none (.leaf) (.draw [⟨0, [14], [3], [], [3], []⟩, ⟨1, [15], [14], [0], [3], []⟩, ⟨2, [16], [4], [], [], []⟩, ⟨3, [17], [0], [], [], []⟩, ⟨4, [18], [4], [], [], []⟩, ⟨5, [19], [17, 18], [3, 4], [19], [19]⟩, ⟨6, [20], [15, 16], [1, 2, 0, 1, 2, 3, 4, 5], [3], []⟩, ⟨7, [], [20, 19], [6, 5, 5, 0, 1, 2, 3, 4, 5], [3, 19], [3, 19, 500019]⟩]))) (.leaf)))))))) (.two .none (.leaf) (.leaf)))))) Try.func70 (by kernel_rfl) (by kernel_rfl) (by kernel_rfl) Try.call70 (tbl_cons ok67 tbl_nil) (by intro a; kernel_rfl)
/-- sparse/graph.induced -/
noncomputable def F54 : Fun := ⟨54, [.v (.st (.pr (.slc .bor (.slc .bor (.int .i64))) .nil)), .v (.slc .bor (.int .i64))], [(.st (.pr (.slc .imm (.slc .imm (.int .i64))) .nil))], d_graph_induced⟩
theorem ok54 : OkFun E F54 :=
  OkFun.of (fn := Try.f54) (rs := [.cell 4 35]) ((70, F70) :: (69, F69) :: (68, F68) :: (60, F60) :: []) [(2, (.ptr .imm (.st (.pr (.slc .bor (.slc .bor (.int .i64))) .nil)))), (4, (.st (.pr (.slc .imm (.slc .imm (.int .i64))) .nil)))] [(999999, 40)] (.keep [0, 1] (.two .none (.leaf) (.two .none (.leaf) (.two .none (.two .none (.leaf) (.one (.keep [2, 13, 14] (.loop ⟨[(4, .s (.ref 4 [])), (5, .s (.ref 5 [])), (15, .v (.int .i64))], [(4, (.optr (.st (.pr (.slc .imm (.slc .imm (.int .i64))) .nil)))), (5, (.osl (.osl .bool)))]⟩ (.x 0 ⟨[(4, .s (.ref 4 [])), (5, .s (.ref 5 []))], [(4, (.optr (.st (.pr (.slc .imm (.slc .imm (.int .i64))) .nil)))), (5, (.osl (.osl .bool)))]⟩) (.two .none (.leaf) (.two .none (.two .none (.leaf) (.leaf)) (.two .none (.one (.two .none (.leaf) (.two .none (.leaf) (.one (.keep [6, 7, 15, 22, 23] (.loop ⟨[(4, .s (.ref 4 [])), (5, .s (.ref 5 [])), (24, .v (.int .i64))], [(4, (.optr (.st (.pr (.slc .imm (.slc .imm (.int .i64))) .nil)))), (5, (.osl (.osl .bool)))]⟩ (.x 2 ⟨[(4, .s (.ref 4 [])), (5, .s (.ref 5 []))], [(4, (.optr (.st (.pr (.slc .imm (.slc .imm (.int .i64))) .nil)))), (5, (.osl (.osl .bool)))]⟩) (.two .none (.leaf) (.two .none (.two .none (.leaf) (.leaf)) (.two (.x [24] ⟨[(4, .s (.ref 4 [])), (5, .s (.ref 5 []))], [(4, (.optr (.st (.pr (.slc .imm (.slc .imm (.int .i64))) .nil)))), (5, (.osl (.osl .bool)))]⟩) (.one (.two .none (.leaf) (.two .none (.leaf) (.two .none (.leaf) (.leaf))))) (.leaf)))))))))) (.leaf)))))))) (.two .none (.leaf) (.leaf)))))) Try.func54 (by kernel_rfl) (by kernel_rfl) (by kernel_rfl) Try.call54 (tbl_cons ok70 (tbl_cons ok69 (tbl_cons ok68 (tbl_cons ok60 tbl_nil)))) (by intro a; kernel_rfl)
/-- sparse/graph.Relabel -/
noncomputable def F37 : Fun := ⟨37, [.v (.st (.pr (.slc .bor (.slc .bor (.int .i64))) .nil)), .v (.slc .bor (.int .i64))], [(.st (.pr (.slc .imm (.slc .imm (.int .i64))) .nil)), (.int .i64)], d_graph_Relabel⟩
theorem ok37 : OkFun E F37 :=
  OkFun.of (fn := Try.f37) (rs := [.cell 4 35, .tmp 5]) ((54, F54) :: (51, F51) :: []) [(2, (.ptr .imm (.st (.pr (.slc .bor (.slc .bor (.int .i64))) .nil)))), (4, (.st (.pr (.slc .imm (.slc .imm (.int .i64))) .nil)))] [] (.keep [0, 1] (.two .none (.leaf) (.two .none (.leaf) (.two .none (.two .none (.leaf) (.two .none (.two .none (.leaf) (.leaf)) (.leaf))) (.two .none (.leaf) (.leaf)))))) Try.func37 (by kernel_rfl) (by kernel_rfl) (by kernel_rfl) Try.call37 (tbl_cons ok54 (tbl_cons ok51 tbl_nil)) (by intro a; kernel_rfl)
/-- sparse/symbolic.Fill -/
noncomputable def F32 : Fun := ⟨32, [.v (.st (.pr (.slc .bor (.slc .bor (.int .i64))) .nil)), .v (.slc .bor (.int .i64))], [(.int .i64), (.int .i64)], d_symbolic_Fill⟩
theorem ok32 : OkFun E F32 :=
  OkFun.of (fn := Try.f32) (rs := [.tmp 4, .tmp 5]) ((37, F37) :: (26, F26) :: []) [(2, (.ptr .imm (.st (.pr (.slc .bor (.slc .bor (.int .i64))) .nil)))), (6, (.st (.pr (.slc .imm (.slc .imm (.int .i64))) .nil))), (8, (.slc .imm (.int .i64)))] [(8, 24000)] (.keep [0, 1] (.two .none (.leaf) (.two .none (.leaf) (.two .none (.two .none (.leaf) (.two .none (.two .none (.leaf) (.leaf)) (.leaf))) (.two .none (.leaf) (.two .none (.leaf) (.two .none (.two .none (.leaf) (.one (.keep [7, 26, 27] (.loop ⟨[(9, .v (.int .i64)), (28, .v (.int .i64))], []⟩ (.x 0 ⟨[(9, .v (.int .i64))], []⟩) (.two .none (.leaf) (.two .none (.two .none (.leaf) (.leaf)) (.two .none (.one (.two .none (.leaf) (.leaf))) (.leaf)))))))) (.two .none (.leaf) (.leaf))))))))) Try.func32 (by kernel_rfl) (by kernel_rfl) (by kernel_rfl) Try.call32 (tbl_cons ok37 (tbl_cons ok26 tbl_nil)) (by intro a; kernel_rfl)
/-- sparse/sparsekit.Perm -/
noncomputable def F61 : Fun := ⟨61, [.v (.slc .bor (.int .i64)), .v (.int .i64)], [.bool], d_sparsekit_Perm⟩
theorem ok61 : OkFun E F61 :=
  OkFun.of (fn := Try.f61) (rs := [.tmp 4]) ([]) [(12, (.osl .bool))] [] (.keep [0, 1] (.two .none (.leaf) (.two .none (.two .none (.leaf) (.two .none (.two .none (.leaf) (.leaf)) (.leaf))) (.two .none (.leaf) (.two .none (.two .none (.leaf) (.one (.loop ⟨[(5, .s (.ref 5 [])), (6, .v (.int .i64))], [(5, (.osl .bool))]⟩ (.xr 0 ⟨[], []⟩) (.two .none (.two .none (.leaf) (.two .none (.leaf) (.leaf))) (.two (.xr [6] ⟨[(5, .s (.ref 5 []))], [(5, (.osl .bool))]⟩) (.one (.two (.xr [] ⟨[(5, .s (.ref 5 []))], [(5, (.osl .bool))]⟩) (.two .none (.leaf) (.two .none (.two .none (.leaf) (.leaf)) (.leaf))) (.leaf))) (.leaf)))))) (.two .none (.leaf) (.leaf))))))) Try.func61 (by kernel_rfl) (by kernel_rfl) (by kernel_rfl) Try.call61 tbl_nil (by intro a; kernel_rfl)
/-- sparse/sparseref09.Range -/
noncomputable def F55 : Fun := ⟨55, [.v (.slc .bor (.int .i64)), .v (.int .i64)], [.bool], d_sparseref09q_Range⟩
theorem ok55 : OkFun E F55 :=
  OkFun.of (fn := Try.f55) (rs := [.tmp 4]) ([]) [] [] (.keep [0, 1] (.two .none (.leaf) (.two .none (.two .none (.leaf) (.one (.loop ⟨[(5, .v (.int .i64))], []⟩ (.xr 0 ⟨[], []⟩) (.two .none (.two .none (.leaf) (.two .none (.leaf) (.leaf))) (.two (.xr [5] ⟨[], []⟩) (.one (.two .none (.leaf) (.two .none (.two .none (.leaf) (.leaf)) (.leaf)))) (.leaf)))))) (.two .none (.leaf) (.leaf))))) Try.func55 (by kernel_rfl) (by kernel_rfl) (by kernel_rfl) Try.call55 tbl_nil (by intro a; kernel_rfl)
/-- sparse/sparseref09.Twice -/
noncomputable def F56 : Fun := ⟨56, [.v (.slc .bor (.int .i64))], [.bool], d_sparseref09q_Twice⟩
theorem ok56 : OkFun E F56 :=
  OkFun.of (fn := Try.f56) (rs := [.tmp 2]) ((21, F21) :: []) [] [] (.keep [0] (.two .none (.leaf) (.two .none (.two .none (.leaf) (.one (.loop ⟨[(3, .v (.int .i64))], []⟩ (.xr 0 ⟨[], []⟩) (.two .none (.two .none (.leaf) (.two .none (.leaf) (.leaf))) (.two .none (.one (.two .none (.draw [⟨0, [10], [0], [], [], []⟩, ⟨1, [11], [3], [], [], []⟩, ⟨2, [12], [10, 11], [0, 1], [], []⟩, ⟨3, [13], [0], [], [], []⟩, ⟨4, [14], [3], [], [], []⟩, ⟨5, [15], [13, 14], [3, 4], [], []⟩, ⟨6, [16], [15], [5], [], []⟩, ⟨7, [17], [12, 16], [2, 6], [], []⟩]) (.two .none (.two .none (.leaf) (.leaf)) (.leaf)))) (.leaf)))))) (.two .none (.leaf) (.leaf))))) Try.func56 (by kernel_rfl) (by kernel_rfl) (by kernel_rfl) Try.call56 (tbl_cons ok21 tbl_nil) (by intro a; kernel_rfl)
/-- sparse/sparseref12.empty -/
noncomputable def F58 : Fun := ⟨58, [.v (.int .i64)], [(.osl (.osl .bool))], d_sparseref12q_empty⟩
theorem ok58 : OkFun E F58 :=
  OkFun.of (fn := Try.f58) (rs := [.tmp 2]) ([]) [(3, (.osl (.osl .bool))), (12, (.osl .bool)), (13, (.osl (.osl .bool)))] [] (.keep [0] (.two .none (.leaf) (.two .none (.leaf) (.two .none (.two .none (.leaf) (.one (.loop ⟨[(3, .s (.ref 3 [])), (4, .v (.int .i64))], [(3, (.osl (.osl .bool)))]⟩ (.x 0 ⟨[(3, .s (.ref 3 []))], [(3, (.osl (.osl .bool)))]⟩) (.two .none (.two .none (.leaf) (.two .none (.leaf) (.leaf))) (.two .none (.one (.leaf)) (.leaf)))))) (.two .none (.leaf) (.leaf)))))) Try.func58 (by kernel_rfl) (by kernel_rfl) (by kernel_rfl) Try.call58 tbl_nil (by intro a; kernel_rfl)
/-- sparse/sparseref12.FromTable -/
noncomputable def F39 : Fun := ⟨39, [.v (.slc .bor (.slc .bor .bool))], [(.st (.pr (.osl (.slc .imm (.int .i64))) .nil))], d_sparseref12q_FromTable⟩
theorem ok39 : OkFun E F39 :=
  OkFun.of (fn := Try.f39) (rs := [.cell 2 35]) ([]) [(2, (.st (.pr (.osl (.slc .imm (.int .i64))) .nil))), (3, (.st (.pr (.osl (.slc .imm (.int .i64))) .nil))), (5, (.osl (.int .i64)))] [] (.keep [0] (.two .none (.leaf) (.two .none (.leaf) (.two .none (.two .none (.leaf) (.one (.loop ⟨[(2, .s (.ref 2 [])), (3, .s (.ref 3 [])), (4, .v (.int .i64))], [(2, (.optr (.st (.pr (.osl (.slc .imm (.int .i64))) .nil)))), (3, (.optr (.st (.pr (.osl (.slc .imm (.int .i64))) .nil))))]⟩ (.x 0 ⟨[(2, .s (.ref 2 [])), (3, .s (.ref 3 []))], [(2, (.optr (.st (.pr (.osl (.slc .imm (.int .i64))) .nil)))), (3, (.optr (.st (.pr (.osl (.slc .imm (.int .i64))) .nil))))]⟩) (.two .none (.two .none (.leaf) (.two .none (.leaf) (.leaf))) (.two .none (.one (.two .none (.leaf) (.two .none (.two .none (.leaf) (.one (.keep [4] (.loop ⟨[(2, .s (.ref 2 [])), (3, .s (.ref 3 [])), (5, .s (.ref 5 [])), (6, .v (.int .i64))], [(2, (.optr (.st (.pr (.osl (.slc .imm (.int .i64))) .nil)))), (3, (.optr (.st (.pr (.osl (.slc .imm (.int .i64))) .nil)))), (5, (.osl (.int .i64)))]⟩ (.x 2 ⟨[(2, .s (.ref 2 [])), (3, .s (.ref 3 [])), (5, .s (.ref 5 []))], [(2, (.optr (.st (.pr (.osl (.slc .imm (.int .i64))) .nil)))), (3, (.optr (.st (.pr (.osl (.slc .imm (.int .i64))) .nil)))), (5, (.osl (.int .i64)))]⟩) (.two .none (.two .none (.leaf) (.two .none (.leaf) (.leaf))) (.two (.x [6] ⟨[(2, .s (.ref 2 [])), (3, .s (.ref 3 [])), (5, .s (.ref 5 []))], [(2, (.optr (.st (.pr (.osl (.slc .imm (.int .i64))) .nil)))), (3, (.optr (.st (.pr (.osl (.slc .imm (.int .i64))) .nil)))), (5, (.osl (.int .i64)))]⟩) (.one (.two (.x [] ⟨[(2, .s (.ref 2 [])), (3, .s (.ref 3 [])), (5, .s (.ref 5 [])), (39, .v .bool)], [(2, (.optr (.st (.pr (.osl (.slc .imm (.int .i64))) .nil)))), (3, (.optr (.st (.pr (.osl (.slc .imm (.int .i64))) .nil)))), (5, (.osl (.int .i64)))]⟩) (.leaf) (.two .none (.leaf) (.leaf)))) (.leaf))))))) (.fz [5] (.leaf))))) (.leaf)))))) (.two .none (.leaf) (.leaf)))))) Try.func39 (by kernel_rfl) (by kernel_rfl) (by kernel_rfl) Try.call39 tbl_nil (by intro a; kernel_rfl)
/-- sparse/sparseref12.Induced -/
noncomputable def F41 : Fun := ⟨41, [.v (.st (.pr (.slc .bor (.slc .bor (.int .i64))) .nil)), .v (.slc .bor (.int .i64))], [(.st (.pr (.slc .imm (.slc .imm (.int .i64))) .nil)), (.int .i64)], d_sparseref12q_Induced⟩
theorem ok41 : OkFun E F41 :=
  OkFun.of (fn := Try.f41) (rs := [.cell 4 35, .tmp 5]) ((58, F58) :: (57, F57) :: (56, F56) :: (55, F55) :: (46, F46) :: (39, F39) :: []) [(2, (.ptr .imm (.st (.pr (.slc .bor (.slc .bor (.int .i64))) .nil)))), (4, (.st (.pr (.slc .imm (.slc .imm (.int .i64))) .nil))), (7, (.slc .imm (.slc .imm .bool)))] [(7, 28), (999999, 64)] (.keep [0, 1] (.two .none (.leaf) (.two .none (.two .none (.leaf) (.two .none (.leaf) (.two .none (.two .none (.leaf) (.leaf)) (.leaf)))) (.two .none (.two .none (.leaf) (.two .none (.two .none (.leaf) (.leaf)) (.leaf))) (.two .none (.two .none (.leaf) (.two .none (.two .none (.leaf) (.leaf)) (.leaf))) (.two .none (.leaf) (.two .none (.leaf) (.two .none (.two .none (.leaf) (.one (.keep [7] (.loop ⟨[(4, .s (.ref 4 [])), (8, .s (.ref 8 [])), (9, .v (.int .i64))], [(4, (.optr (.st (.pr (.slc .imm (.slc .imm (.int .i64))) .nil)))), (8, (.osl (.osl .bool)))]⟩ (.x 0 ⟨[(4, .s (.ref 4 [])), (8, .s (.ref 8 []))], [(4, (.optr (.st (.pr (.slc .imm (.slc .imm (.int .i64))) .nil)))), (8, (.osl (.osl .bool)))]⟩) (.two .none (.two .none (.leaf) (.two .none (.leaf) (.leaf))) (.two .none (.one (.two .none (.leaf) (.one (.keep [9] (.loop ⟨[(4, .s (.ref 4 [])), (8, .s (.ref 8 [])), (10, .v (.int .i64))], [(4, (.optr (.st (.pr (.slc .imm (.slc .imm (.int .i64))) .nil)))), (8, (.osl (.osl .bool)))]⟩ (.x 2 ⟨[(4, .s (.ref 4 [])), (8, .s (.ref 8 []))], [(4, (.optr (.st (.pr (.slc .imm (.slc .imm (.int .i64))) .nil)))), (8, (.osl (.osl .bool)))]⟩) (.two .none (.two .none (.leaf) (.two .none (.leaf) (.leaf))) (.two .none (.one (.draw [⟨0, [44], [8], [], [500008], []⟩, ⟨1, [45], [9], [], [], []⟩, ⟨2, [46], [44, 45], [0, 1], [8], []⟩, ⟨3, [47], [46], [2], [8], []⟩, ⟨4, [48], [10], [], [], []⟩, ⟨5, [49], [7], [], [], []⟩, ⟨6, [50], [1], [], [], []⟩, ⟨7, [51], [9], [], [], []⟩, ⟨8, [52], [50, 51], [6, 7], [], []⟩, ⟨9, [53], [52], [8], [], []⟩, ⟨10, [54], [49, 53], [5, 9], [], []⟩, ⟨11, [55], [54], [10], [], []⟩, ⟨12, [56], [1], [], [], []⟩, ⟨13, [57], [10], [], [], []⟩, ⟨14, [58], [56, 57], [12, 13], [], []⟩, ⟨15, [59], [58], [14], [], []⟩, ⟨16, [60], [55, 59], [11, 15], [], []⟩, ⟨17, [61], [60], [16], [], []⟩, ⟨18, [62], [47, 48], [3, 4, 0, 1, 2, 3, 4, 5, 6, 7, 8, 9, 10, 11, 12, 13, 14, 15, 16, 17], [8], []⟩, ⟨19, [], [62, 61], [18, 17, 0, 1, 2, 3, 4, 5, 6, 7, 8, 9, 10, 11, 12, 13, 14, 15, 16, 17], [8], [8]⟩])) (.leaf)))))))) (.leaf))))))) (.two .none (.leaf) (.leaf)))))))))) Try.func41 (by kernel_rfl) (by kernel_rfl) (by kernel_rfl) Try.call41 (tbl_cons ok58 (tbl_cons ok57 (tbl_cons ok56 (tbl_cons ok55 (tbl_cons ok46 (tbl_cons ok39 tbl_nil)))))) (by intro a; kernel_rfl)
/-- sparse/sparseref12.Relabel -/
noncomputable def F50 : Fun := ⟨50, [.v (.st (.pr (.slc .bor (.slc .bor (.int .i64))) .nil)), .v (.slc .bor (.int .i64))], [(.st (.pr (.slc .imm (.slc .imm (.int .i64))) .nil)), (.int .i64)], d_sparseref12q_Relabel⟩
theorem ok50 : OkFun E F50 :=
  OkFun.of (fn := Try.f50) (rs := [.cell 4 35, .tmp 5]) ((61, F61) :: (46, F46) :: (41, F41) :: []) [(2, (.ptr .imm (.st (.pr (.slc .bor (.slc .bor (.int .i64))) .nil)))), (4, (.st (.pr (.slc .imm (.slc .imm (.int .i64))) .nil)))] [] (.keep [0, 1] (.two .none (.leaf) (.two .none (.two .none (.leaf) (.two .none (.leaf) (.two .none (.two .none (.leaf) (.leaf)) (.leaf)))) (.two .none (.two .none (.leaf) (.two .none (.two .none (.leaf) (.leaf)) (.leaf))) (.two .none (.two .none (.leaf) (.two .none (.two .none (.leaf) (.leaf)) (.leaf))) (.two .none (.leaf) (.leaf))))))) Try.func50 (by kernel_rfl) (by kernel_rfl) (by kernel_rfl) Try.call50 (tbl_cons ok61 (tbl_cons ok46 (tbl_cons ok41 tbl_nil))) (by intro a; kernel_rfl)
/-- sparse/sparseref20.Fill -/
noncomputable def F33 : Fun := ⟨33, [.v (.st (.pr (.slc .bor (.slc .bor (.int .i64))) .nil)), .v (.slc .bor (.int .i64))], [(.int .i64), (.int .i64)], d_sparseref20q_Fill⟩
theorem ok33 : OkFun E F33 :=
  OkFun.of (fn := Try.f33) (rs := [.tmp 4, .tmp 5]) ((50, F50) :: (31, F31) :: []) [(2, (.ptr .imm (.st (.pr (.slc .bor (.slc .bor (.int .i64))) .nil)))), (6, (.st (.pr (.slc .imm (.slc .imm (.int .i64))) .nil))), (8, (.slc .imm (.int .i64)))] [(8, 24000)] (.keep [0, 1] (.two .none (.leaf) (.two .none (.leaf) (.two .none (.two .none (.leaf) (.two .none (.two .none (.leaf) (.leaf)) (.leaf))) (.two .none (.leaf) (.two .none (.leaf) (.two .none (.two .none (.leaf) (.one (.keep [8] (.loop ⟨[(10, .v (.int .i64)), (11, .v (.int .i64))], []⟩ (.x 0 ⟨[(10, .v (.int .i64))], []⟩) (.two .none (.two .none (.leaf) (.two .none (.leaf) (.leaf))) (.two .none (.one (.leaf)) (.leaf))))))) (.two .none (.leaf) (.leaf))))))))) Try.func33 (by kernel_rfl) (by kernel_rfl) (by kernel_rfl) Try.call33 (tbl_cons ok50 (tbl_cons ok31 tbl_nil)) (by intro a; kernel_rfl)
/-- sparse/sparsekit.Graph -/
noncomputable def F34 : Fun := ⟨34, [.v (.st (.pr (.slc .bor (.slc .bor (.int .i64))) .nil)), .v (.st (.pr (.slc .bor (.slc .bor (.int .i64))) .nil))], [.bool], d_sparsekit_Graph⟩
theorem ok34 : OkFun E F34 :=
  OkFun.of (fn := Try.f34) (rs := [.tmp 4]) ((17, F17) :: []) [(2, (.ptr .imm (.st (.pr (.slc .bor (.slc .bor (.int .i64))) .nil)))), (3, (.ptr .imm (.st (.pr (.slc .bor (.slc .bor (.int .i64))) .nil))))] [] (.keep [0, 1] (.two .none (.leaf) (.two .none (.leaf) (.leaf)))) Try.func34 (by kernel_rfl) (by kernel_rfl) (by kernel_rfl) Try.call34 (tbl_cons ok17 tbl_nil) (by intro a; kernel_rfl)
/-- sparse/sparselaw20.SymbolicAny -/
noncomputable def F8 : Fun := ⟨8, [.v (.st (.pr (.slc .bor (.slc .bor (.int .i64))) .nil)), .v (.int .i64), .v (.slc .bor (.int .i64))], [.bool], d_sparselaw20q_SymbolicAny⟩
theorem ok8 : OkFun E F8 :=
  OkFun.of (fn := Try.f8) (rs := [.tmp 6]) ((34, F34) :: (33, F33) :: (32, F32) :: (31, F31) :: (30, F30) :: (29, F29) :: (28, F28) :: (27, F27) :: (26, F26) :: (24, F24) :: (20, F20) :: (17, F17) :: (16, F16) :: (11, F11) :: []) [(3, (.ptr .imm (.st (.pr (.slc .bor (.slc .bor (.int .i64))) .nil)))), (7, (.st (.pr (.slc .imm (.slc .imm (.int .i64))) .nil))), (8, (.slc .imm (.slc .imm (.int .i64)))), (10, (.slc .imm (.slc .imm (.int .i64)))), (12, (.slc .imm (.int .i64))), (14, (.slc .imm (.int .i64))), (16, (.slc .imm (.int .i64))), (18, (.slc .imm (.int .i64)))] [(8, 38000), (10, 43000), (12, 49000), (14, 55000), (16, 60000), (18, 65000)] (.keep [0, 1, 2] (.two .none (.leaf) (.two (.xr [3] ⟨[], []⟩) (.two (.x [] ⟨[(31, .v .bool)], []⟩) (.leaf) (.two .none (.two .none (.leaf) (.leaf)) (.leaf))) (.two .none (.leaf) (.two .none (.leaf) (.two .none (.leaf) (.two .none (.leaf) (.two .none (.leaf) (.two .none (.leaf) (.two .none (.leaf) (.two .none (.leaf) (.two .none (.leaf) (.two .none (.leaf) (.leaf)))))))))))))) Try.func8 (by kernel_rfl) (by kernel_rfl) (by kernel_rfl) Try.call8 (tbl_cons ok34 (tbl_cons ok33 (tbl_cons ok32 (tbl_cons ok31 (tbl_cons ok30 (tbl_cons ok29 (tbl_cons ok28 (tbl_cons ok27 (tbl_cons ok26 (tbl_cons ok24 (tbl_cons ok20 (tbl_cons ok17 (tbl_cons ok16 (tbl_cons ok11 tbl_nil)))))))))))))) (by intro a; kernel_rfl)
/-- sparse/sparsekit.Place -/
noncomputable def F18 : Fun := ⟨18, [.v (.int .i64), .v (.int .i64)], [(.int .i64)], d_sparsekit_Place⟩
theorem ok18 : OkFun E F18 :=
  OkFun.of (fn := Try.f18) (rs := [.tmp 4]) ([]) [] [] (.keep [0, 1] (.two .none (.leaf) (.two .none (.leaf) (.leaf)))) Try.func18 (by kernel_rfl) (by kernel_rfl) (by kernel_rfl) Try.call18 tbl_nil (by intro a; kernel_rfl)
/-- sparse/sparsemake.Graph -/
noncomputable def F19 : Fun := ⟨19, [.v (.int .i64), .v (.slc .bor (.int .i64))], [(.st (.pr (.slc .imm (.slc .imm (.int .i64))) .nil))], d_sparsemake_Graph⟩
theorem ok19 : OkFun E F19 :=
  OkFun.of (fn := Try.f19) (rs := [.cell 4 35]) ((39, F39) :: (18, F18) :: []) [(4, (.st (.pr (.slc .imm (.slc .imm (.int .i64))) .nil))), (5, (.osl (.osl .bool))), (15, (.osl .bool)), (16, (.osl (.osl .bool)))] [(999999, 47)] (.keep [0, 1] (.two .none (.leaf) (.two .none (.leaf) (.two .none (.two .none (.leaf) (.one (.loop ⟨[(4, .s (.ref 4 [])), (5, .s (.ref 5 [])), (6, .v (.int .i64))], [(4, (.optr (.st (.pr (.slc .imm (.slc .imm (.int .i64))) .nil)))), (5, (.osl (.osl .bool)))]⟩ (.x 0 ⟨[(4, .s (.ref 4 [])), (5, .s (.ref 5 []))], [(4, (.optr (.st (.pr (.slc .imm (.slc .imm (.int .i64))) .nil)))), (5, (.osl (.osl .bool)))]⟩) (.two .none (.two .none (.leaf) (.two .none (.leaf) (.leaf))) (.two .none (.one (.leaf)) (.leaf)))))) (.two .none (.two .none (.leaf) (.one (.loop ⟨[(4, .s (.ref 4 [])), (5, .s (.ref 5 [])), (7, .v (.int .i64))], [(4, (.optr (.st (.pr (.slc .imm (.slc .imm (.int .i64))) .nil)))), (5, (.osl (.osl .bool)))]⟩ (.x 2 ⟨[(4, .s (.ref 4 [])), (5, .s (.ref 5 []))], [(4, (.optr (.st (.pr (.slc .imm (.slc .imm (.int .i64))) .nil)))), (5, (.osl (.osl .bool)))]⟩) (.two (.xr [7] ⟨[(4, .s (.ref 4 [])), (5, .s (.ref 5 []))], [(4, (.optr (.st (.pr (.slc .imm (.slc .imm (.int .i64))) .nil)))), (5, (.osl (.osl .bool)))]⟩) (.two .none (.leaf) (.two .none (.leaf) (.leaf))) (.two .none (.one (.draw [⟨0, [29], [5], [], [500005], []⟩, ⟨1, [30], [1], [], [], []⟩, ⟨2, [31], [7], [], [], []⟩, ⟨3, [32], [30, 31], [1, 2], [], []⟩, ⟨4, [33], [32], [3], [], []⟩, ⟨5, [34], [0], [], [], []⟩, ⟨6, [35], [33, 34], [4, 5], [], []⟩, ⟨7, [36], [29, 35], [0, 6], [5], []⟩, ⟨8, [37], [36], [7], [5], []⟩, ⟨9, [38], [1], [], [], []⟩, ⟨10, [39], [7], [], [], []⟩, ⟨11, [40], [39], [10], [], []⟩, ⟨12, [41], [38, 40], [9, 11], [], []⟩, ⟨13, [42], [41], [12], [], []⟩, ⟨14, [43], [0], [], [], []⟩, ⟨15, [44], [42, 43], [13, 14, 6], [], []⟩, ⟨16, [45], [37, 44], [8, 15, 0, 1, 2, 3, 4, 5, 6, 7, 8, 9, 10, 11, 12, 13, 14, 15], [5], []⟩, ⟨17, [], [45], [16, 15, 0, 1, 2, 3, 4, 5, 6, 7, 8, 9, 10, 11, 12, 13, 14, 15], [5], [5]⟩])) (.leaf)))))) (.two .none (.leaf) (.leaf))))))) Try.func19 (by kernel_rfl) (by kernel_rfl) (by kernel_rfl) Try.call19 (tbl_cons ok39 (tbl_cons ok18 tbl_nil)) (by intro a; kernel_rfl)
/-- sparse/sparsekit.Shuffle -/
noncomputable def F35 : Fun := ⟨35, [.v (.slc .bor (.int .i64)), .v (.int .i64)], [(.osl (.int .i64))], d_sparsekit_Shuffle⟩
theorem ok35 : OkFun E F35 :=
  OkFun.of (fn := Try.f35) (rs := [.tmp 4]) ((18, F18) :: []) [(5, (.osl (.int .i64))), (7, (.osl (.int .i64)))] [] (.keep [0, 1] (.two .none (.leaf) (.two .none (.leaf) (.two .none (.two .none (.leaf) (.one (.loop ⟨[(5, .s (.ref 5 [])), (6, .v (.int .i64))], [(5, (.osl (.int .i64)))]⟩ (.x 0 ⟨[(5, .s (.ref 5 []))], [(5, (.osl (.int .i64)))]⟩) (.two .none (.two .none (.leaf) (.two .none (.leaf) (.leaf))) (.two .none (.one (.leaf)) (.leaf)))))) (.two .none (.leaf) (.two .none (.two .none (.leaf) (.one (.loop ⟨[(5, .s (.ref 5 [])), (7, .s (.ref 7 [])), (8, .v (.int .i64))], [(5, (.osl (.int .i64))), (7, (.osl (.int .i64)))]⟩ (.x 2 ⟨[(7, .s (.ref 7 []))], [(7, (.osl (.int .i64)))]⟩) (.two .none (.two .none (.leaf) (.two .none (.leaf) (.leaf))) (.two (.x [8] ⟨[(5, .s (.ref 5 [])), (7, .s (.ref 7 []))], [(5, (.osl (.int .i64))), (7, (.osl (.int .i64)))]⟩) (.one (.two .none (.leaf) (.two (.x [] ⟨[(5, .s (.ref 5 [])), (7, .s (.ref 7 [])), (9, .v (.int .i64))], [(5, (.osl (.int .i64))), (7, (.osl (.int .i64)))]⟩) (.two .none (.leaf) (.two .none (.leaf) (.leaf))) (.two .none (.leaf) (.draw [⟨0, [42], [5], [], [500005], []⟩, ⟨1, [43], [9], [], [], []⟩, ⟨2, [44], [42, 43], [0, 1], [5], []⟩, ⟨3, [45], [5], [], [500005], []⟩, ⟨4, [46], [9], [], [], []⟩, ⟨5, [47], [46], [4], [], []⟩, ⟨6, [48], [45, 47], [3, 5], [5], []⟩, ⟨7, [49], [44, 48], [2, 6], [5, 49], [5, 49, 500005, 500049]⟩, ⟨8, [5], [49], [7, 7, 0, 1, 2, 3, 4, 5, 6, 7], [5, 49], [5, 49, 500005, 500049]⟩]))))) (.leaf)))))) (.two .none (.leaf) (.leaf)))))))) Try.func35 (by kernel_rfl) (by kernel_rfl) (by kernel_rfl) Try.call35 (tbl_cons ok18 tbl_nil) (by intro a; kernel_rfl)
/-- sparse/sparselaw20.SymbolicMade -/
noncomputable def F9 : Fun := ⟨9, [.v (.int .i64), .v (.slc .bor (.int .i64)), .v (.int .i64), .v (.slc .bor (.int .i64))], [.bool], d_sparselaw20q_SymbolicMade⟩
theorem ok9 : OkFun E F9 :=
  OkFun.of (fn := Try.f9) (rs := [.tmp 8]) ((35, F35) :: (33, F33) :: (32, F32) :: (31, F31) :: (30, F30) :: (27, F27) :: (26, F26) :: (24, F24) :: (20, F20) :: (19, F19) :: (18, F18) :: (17, F17) :: (16, F16) :: (11, F11) :: []) [(9, (.st (.pr (.slc .imm (.slc .imm (.int .i64))) .nil))), (10, (.slc .imm (.int .i64))), (11, (.slc .imm (.slc .imm (.int .i64)))), (13, (.slc .imm (.slc .imm (.int .i64)))), (15, (.slc .imm (.int .i64))), (17, (.slc .imm (.int .i64))), (19, (.slc .imm (.int .i64))), (21, (.slc .imm (.int .i64)))] [(10, 42), (11, 46000), (13, 51000), (15, 57000), (17, 63000), (19, 68000), (21, 73000)] (.keep [1, 3] (.two .none (.leaf) (.two .none (.two .none (.leaf) (.two .none (.two .none (.leaf) (.leaf)) (.leaf))) (.two .none (.leaf) (.two .none (.leaf) (.two .none (.leaf) (.two .none (.leaf) (.two .none (.leaf) (.two .none (.leaf) (.two .none (.leaf) (.two .none (.leaf) (.two .none (.leaf) (.two .none (.leaf) (.two .none (.leaf) (.two .none (.leaf) (.two .none (.leaf) (.leaf))))))))))))))))) Try.func9 (by kernel_rfl) (by kernel_rfl) (by kernel_rfl) Try.call9 (tbl_cons ok35 (tbl_cons ok33 (tbl_cons ok32 (tbl_cons ok31 (tbl_cons ok30 (tbl_cons ok27 (tbl_cons ok26 (tbl_cons ok24 (tbl_cons ok20 (tbl_cons ok19 (tbl_cons ok18 (tbl_cons ok17 (tbl_cons ok16 (tbl_cons ok11 tbl_nil)))))))))))))) (by intro a; kernel_rfl)
/-- sparse/graph.Table -/
noncomputable def F66 : Fun := ⟨66, [.v (.st (.pr (.slc .bor (.slc .bor (.int .i64))) .nil))], [(.osl (.osl .bool))], d_graph_Table⟩
theorem ok66 : OkFun E F66 :=
  OkFun.of (fn := Try.f66) (rs := [.tmp 2]) ((69, F69) :: (68, F68) :: []) [(1, (.ptr .imm (.st (.pr (.slc .bor (.slc .bor (.int .i64))) .nil))))] [] (.keep [0] (.two .none (.leaf) (.two .none (.leaf) (.two .none (.two .none (.leaf) (.one (.keep [13, 14] (.loop ⟨[(3, .s (.ref 3 [])), (15, .v (.int .i64))], [(3, (.osl (.osl .bool)))]⟩ (.x 0 ⟨[(3, .s (.ref 3 []))], [(3, (.osl (.osl .bool)))]⟩) (.two .none (.leaf) (.two .none (.two .none (.leaf) (.leaf)) (.two .none (.one (.two .none (.leaf) (.two .none (.leaf) (.one (.keep [4, 15, 20, 21] (.loop ⟨[(3, .s (.ref 3 [])), (22, .v (.int .i64))], [(3, (.osl (.osl .bool)))]⟩ (.x 2 ⟨[(3, .s (.ref 3 []))], [(3, (.osl (.osl .bool)))]⟩) (.two .none (.leaf) (.two .none (.two .none (.leaf) (.leaf)) (.two .none (.one (.two .none (.leaf) (.leaf))) (.leaf)))))))))) (.leaf)))))))) (.two .none (.leaf) (.leaf)))))) Try.func66 (by kernel_rfl) (by kernel_rfl) (by kernel_rfl) Try.call66 (tbl_cons ok69 (tbl_cons ok68 tbl_nil)) (by intro a; kernel_rfl)
/-- sparse/mindeg.Start -/
noncomputable def F52 : Fun := ⟨52, [.v (.st (.pr (.slc .bor (.slc .bor (.int .i64))) .nil))], [(.optr (.st (.pr (.osl (.osl .bool)) (.pr (.osl .bool) .nil))))], d_mindeg_Start⟩
theorem ok52 : OkFun E F52 :=
  OkFun.of (fn := Try.f52) (rs := [.tmp 2]) ((66, F66) :: []) [(1, (.ptr .imm (.st (.pr (.slc .bor (.slc .bor (.int .i64))) .nil)))), (8, (.osl .bool))] [] (.keep [0] (.two .none (.leaf) (.two .none (.draw [⟨0, [3], [1], [], [], []⟩, ⟨1, [4], [3], [0], [4], [4]⟩, ⟨2, [5], [1], [], [], []⟩, ⟨3, [6], [5], [2], [], []⟩, ⟨4, [7], [6], [3], [], []⟩, ⟨5, [8], [7, 7], [4, 4], [8], [8]⟩, ⟨6, [9], [4, 8], [1, 5], [4, 8, 9], [4, 8, 9, 500004, 500008]⟩, ⟨7, [10], [9], [6], [9, 10], [9, 10, 500009]⟩, ⟨8, [2], [10], [7, 1, 0, 1, 2, 3, 4, 5, 6, 7], [2, 10], [2, 10, 500002, 500010]⟩]) (.leaf)))) Try.func52 (by kernel_rfl) (by kernel_rfl) (by kernel_rfl) Try.call52 (tbl_cons ok66 tbl_nil) (by intro a; kernel_rfl)
/-- (*sparse/mindeg.Elimination).Eliminate -/
noncomputable def F53 : Fun := ⟨53, [.m (.optr (.st (.pr (.osl (.osl .bool)) (.pr (.osl .bool) .nil)))), .v (.int .i64)], [(.slc .imm (.int .i64))], d_mindeg_Elimination_Eliminate⟩
theorem ok53 : OkFun E F53 :=
  OkFun.of (fn := Try.f53) (rs := [.tmp 4]) ((68, F68) :: (67, F67) :: []) [(5, (.slc .imm (.int .i64)))] [(5, 15)] (.keep [1] (.two .none (.leaf) (.two .none (.leaf) (.two .none (.two .none (.leaf) (.one (.keep [5, 16, 17] (.loop ⟨[(0, .s (.ref 0 [])), (18, .v (.int .i64))], [(0, (.optr (.st (.pr (.osl (.osl .bool)) (.pr (.osl .bool) .nil)))))]⟩ (.x 0 ⟨[(0, .s (.ref 0 []))], [(0, (.optr (.st (.pr (.osl (.osl .bool)) (.pr (.osl .bool) .nil)))))]⟩) (.two .none (.leaf) (.two .none (.two .none (.leaf) (.leaf)) (.two .none (.one (.two .none (.leaf) (.two .none (.two .none (.leaf) (.one (.keep [7, 18, 25, 26] (.loop ⟨[(0, .s (.ref 0 [])), (27, .v (.int .i64))], [(0, (.optr (.st (.pr (.osl (.osl .bool)) (.pr (.osl .bool) .nil)))))]⟩ (.x 2 ⟨[(0, .s (.ref 0 []))], [(0, (.optr (.st (.pr (.osl (.osl .bool)) (.pr (.osl .bool) .nil)))))]⟩) (.two .none (.leaf) (.two .none (.two .none (.leaf) (.leaf)) (.two .none (.one (.two .none (.leaf) (.leaf))) (.leaf)))))))) (.draw [⟨0, [39], [0], [], [500000], []⟩, ⟨1, [40], [39], [0], [0], []⟩, ⟨2, [41], [40], [1], [0], []⟩, ⟨3, [42], [41], [2], [0], []⟩, ⟨4, [43], [7], [], [], []⟩, ⟨5, [44], [42, 43], [3, 4], [0], []⟩, ⟨6, [45], [44], [5], [0], []⟩, ⟨7, [46], [1], [], [], []⟩, ⟨8, [47], [0], [], [500000], []⟩, ⟨9, [48], [47], [8], [0], []⟩, ⟨10, [49], [48], [9], [0], []⟩, ⟨11, [50], [49], [10], [0], []⟩, ⟨12, [51], [1], [], [], []⟩, ⟨13, [52], [50, 51], [11, 12], [0], []⟩, ⟨14, [53], [52], [13], [0], []⟩, ⟨15, [54], [7], [], [], []⟩, ⟨16, [55], [45, 46], [6, 7, 0, 1, 2, 3, 4, 5, 6, 7, 11, 14], [0], []⟩, ⟨17, [], [55], [16, 0, 1, 2, 3, 4, 5, 6, 7, 11, 14], [0], [0]⟩, ⟨18, [56], [53, 54], [14, 15, 0, 1, 2, 3, 4, 5, 6, 7, 8, 9, 10, 11, 12, 13, 14, 15, 16, 17], [0], []⟩, ⟨19, [], [56], [18, 17, 0, 1, 2, 3, 4, 5, 6, 7, 8, 9, 10, 11, 12, 13, 14, 15, 16, 17], [0], [0]⟩])))) (.leaf)))))))) (.two .none (.leaf) (.two .none (.leaf) (.leaf))))))) Try.func53 (by kernel_rfl) (by kernel_rfl) (by kernel_rfl) Try.call53 (tbl_cons ok68 (tbl_cons ok67 tbl_nil)) (by intro a; kernel_rfl)
/-- sparse/mindeg.Degrees -/
noncomputable def F36 : Fun := ⟨36, [.v (.st (.pr (.slc .bor (.slc .bor (.int .i64))) .nil)), .v (.slc .bor (.int .i64))], [(.osl (.int .i64)), (.int .i64)], d_mindeg_Degrees⟩
theorem ok36 : OkFun E F36 :=
  OkFun.of (fn := Try.f36) (rs := [.tmp 4, .tmp 5]) ((53, F53) :: (52, F52) :: (51, F51) :: []) [(2, (.ptr .imm (.st (.pr (.slc .bor (.slc .bor (.int .i64))) .nil)))), (8, (.osl (.int .i64))), (4, (.osl (.int .i64)))] [] (.keep [0, 1] (.two .none (.leaf) (.two .none (.leaf) (.two .none (.two .none (.leaf) (.two .none (.two .none (.leaf) (.leaf)) (.leaf))) (.two .none (.leaf) (.two .none (.leaf) (.two .none (.two .none (.leaf) (.one (.keep [19, 20] (.loop ⟨[(7, .s (.ref 7 [])), (8, .s (.ref 8 [])), (21, .v (.int .i64))], [(7, (.optr (.st (.pr (.osl (.osl .bool)) (.pr (.osl .bool) .nil))))), (8, (.osl (.int .i64)))]⟩ (.x 0 ⟨[(8, .s (.ref 8 []))], [(8, (.osl (.int .i64)))]⟩) (.two .none (.leaf) (.two .none (.two .none (.leaf) (.leaf)) (.two .none (.one (.two .none (.leaf) (.leaf))) (.leaf)))))))) (.two .none (.leaf) (.leaf))))))))) Try.func36 (by kernel_rfl) (by kernel_rfl) (by kernel_rfl) Try.call36 (tbl_cons ok53 (tbl_cons ok52 (tbl_cons ok51 tbl_nil))) (by intro a; kernel_rfl)
/-- sparse/sparselaw20.SymbolicFill -/
noncomputable def F10 : Fun := ⟨10, [.v (.int .i64), .v (.slc .bor (.int .i64)), .v (.slc .bor (.int .i64))], [.bool], d_sparselaw20q_SymbolicFill⟩
theorem ok10 : OkFun E F10 :=
  OkFun.of (fn := Try.f10) (rs := [.tmp 6]) ((37, F37) :: (36, F36) :: (35, F35) :: (32, F32) :: (26, F26) :: (19, F19) :: (18, F18) :: (11, F11) :: []) [(7, (.st (.pr (.slc .imm (.slc .imm (.int .i64))) .nil))), (8, (.slc .imm (.int .i64))), (11, (.slc .imm (.int .i64))), (17, (.st (.pr (.slc .imm (.slc .imm (.int .i64))) .nil))), (19, (.slc .imm (.int .i64)))] [(8, 34), (11, 45000), (19, 82000)] (.keep [1, 2] (.two .none (.leaf) (.two .none (.two .none (.leaf) (.two .none (.two .none (.leaf) (.leaf)) (.leaf))) (.two .none (.leaf) (.two .none (.leaf) (.two .none (.leaf) (.two .none (.leaf) (.two .none (.leaf) (.two .none (.leaf) (.two .none (.two .none (.leaf) (.one (.keep [0, 8, 9, 10, 11, 12, 14] (.loop ⟨[(7, .s (.ref 7 [])), (13, .v (.int .i64)), (15, .v (.int .i64))], [(7, (.optr (.st (.pr (.slc .imm (.slc .imm (.int .i64))) .nil))))]⟩ (.x 0 ⟨[(7, .s (.ref 7 [])), (13, .v (.int .i64))], [(7, (.optr (.st (.pr (.slc .imm (.slc .imm (.int .i64))) .nil))))]⟩) (.two .none (.two .none (.leaf) (.two .none (.leaf) (.leaf))) (.two .none (.one (.leaf)) (.leaf))))))) (.two .none (.two .none (.leaf) (.one (.keep [0, 8, 9, 10, 11, 12, 13] (.loop ⟨[(7, .s (.ref 7 [])), (14, .v (.int .i64)), (16, .v (.int .i64))], [(7, (.optr (.st (.pr (.slc .imm (.slc .imm (.int .i64))) .nil))))]⟩ (.x 2 ⟨[(7, .s (.ref 7 [])), (14, .v (.int .i64))], [(7, (.optr (.st (.pr (.slc .imm (.slc .imm (.int .i64))) .nil))))]⟩) (.two .none (.two .none (.leaf) (.two .none (.leaf) (.leaf))) (.two .none (.one (.leaf)) (.leaf))))))) (.two .none (.leaf) (.two .none (.leaf) (.two .none (.leaf) (.two .none (.two .none (.leaf) (.one (.keep [0, 9, 10, 11, 12, 13, 14, 18, 19, 20] (.loop ⟨[(21, .v (.int .i64)), (22, .v (.int .i64))], []⟩ (.x 4 ⟨[(21, .v (.int .i64))], []⟩) (.two .none (.two .none (.leaf) (.two .none (.leaf) (.leaf))) (.two .none (.one (.leaf)) (.leaf))))))) (.two .none (.leaf) (.leaf))))))))))))))))) Try.func10 (by kernel_rfl) (by kernel_rfl) (by kernel_rfl) Try.call10 (tbl_cons ok37 (tbl_cons ok36 (tbl_cons ok35 (tbl_cons ok32 (tbl_cons ok26 (tbl_cons ok19 (tbl_cons ok18 (tbl_cons ok11 tbl_nil)))))))) (by intro a; kernel_rfl)
end Go.Fw
end
