/-
  Parts of the proof: Ev32, Pl80, Pl81, Pl82, Pl83, Pl84, Pl85, Pl86, Pl87, Pl88, Pl89, Pl90, Pl93: the framework (Fw), pure forms (Dn), plain laws (Pl, Th), calls of functions (Ok).
-/
import Derived.Test.YtcccghiheienfaaBdf83a411

set_option linter.all false
section
namespace Go.Fw
noncomputable def e_sparselaw32q_front (n_ : Nat) : (Int × Int × Int × Int × Unit) → Option ((Int × (Int × ((List Int) × (Int × Unit)))) × Unit) := fun (first_1, k_2, r_3, parent_4, _) =>
  (loopN (σ := (Int × (Int × (Int × ((List Int) × (Int × Unit)))) × (Int × (Int × ((List Int) × (Int × Unit)))) × Unit)) (ρ := ((Int × (Int × ((List Int) × (Int × Unit)))) × (Int × (Int × ((List Int) × (Int × Unit)))) × Unit)) (fun (i_5, s_6, f_7, _) =>
  (bif (decide (i_5 < r_3)) then (
  (limO ((f_7.2.2.1).length + ([(IntKind.i64.wrap (first_1 + i_5))]).length)).bind fun _ =>
  some (.inl ((IntKind.i64.wrap (i_5 + ((1) : Int))), s_6, (f_7.1, (f_7.2.1, ((f_7.2.2.1 ++ [(IntKind.i64.wrap (first_1 + i_5))]), f_7.2.2.2))), ()))) else (
  some (.inr (s_6, f_7, ()))))) n_ (((0) : Int), ((0 : Int), ((0 : Int), ([], ((0 : Int), ())))), (first_1, ((IntKind.i64.wrap (first_1 + k_2)), (([] : (List Int)), (parent_4, ())))), ())).bind fun (_, f_9, _) =>
  some (f_9, ())
set_option maxHeartbeats 4000000 in
theorem le_sparselaw32q_front (n_ : Nat) (a : (Int × Int × Int × Int × Unit)) : Le (e_sparselaw32q_front n_ a) (d_sparselaw32q_front a) := by
  unfold e_sparselaw32q_front d_sparselaw32q_front
  repeat' (first | with_reducible exact Le.refl _  | (with_reducible refine Le.bind ?_ (fun y => ?_)) | (with_reducible refine Le.bif ?_ ?_) | (with_reducible refine Le.loop (fun s => ?_) _ _) | (with_reducible refine Le.atO (fun e => ?_)) | split)
noncomputable def e_memory_Sizes (n_ : Nat) : ((List (Int × (Int × ((List Int) × (Int × Unit))))) × Unit) → Option ((List Int) × (List Int) × Int × Unit) := fun (l_1, _) =>
  (e_memory_proper n_ (l_1, ())).bind fun (r8, _) =>
  (bif (!r8) then (
  some ([], [], ((211) : Int), ())) else (
  (e_memory_sizes n_ (l_1, ())).bind fun (r9, r10, _) =>
  some (r9, r10, ((0) : Int), ())))
set_option maxHeartbeats 4000000 in
theorem le_memory_Sizes (n_ : Nat) (a : ((List (Int × (Int × ((List Int) × (Int × Unit))))) × Unit)) : Le (e_memory_Sizes n_ a) (d_memory_Sizes a) := by
  unfold e_memory_Sizes d_memory_Sizes
  repeat' (first | with_reducible exact Le.refl _ | with_reducible exact le_memory_proper _ _ | with_reducible exact le_memory_sizes _ _ | (with_reducible refine Le.bind ?_ (fun y => ?_)) | (with_reducible refine Le.bif ?_ ?_) | (with_reducible refine Le.loop (fun s => ?_) _ _) | (with_reducible refine Le.atO (fun e => ?_)) | split)
noncomputable def e_plan_proper (n_ : Nat) : ((List (Int × (Int × ((List Int) × (Int × Unit))))) × Unit) → Option (Int × Unit) := fun (l_1, _) =>
  (e_memory_Sizes n_ (l_1, ())).bind fun (_, _, r4, _) =>
  some (r4, ())
set_option maxHeartbeats 4000000 in
theorem le_plan_proper (n_ : Nat) (a : ((List (Int × (Int × ((List Int) × (Int × Unit))))) × Unit)) : Le (e_plan_proper n_ a) (d_plan_proper a) := by
  unfold e_plan_proper d_plan_proper
  repeat' (first | with_reducible exact Le.refl _ | with_reducible exact le_memory_Sizes _ _ | (with_reducible refine Le.bind ?_ (fun y => ?_)) | (with_reducible refine Le.bif ?_ ?_) | (with_reducible refine Le.loop (fun s => ?_) _ _) | (with_reducible refine Le.atO (fun e => ?_)) | split)
noncomputable def e_plan_Work (n_ : Nat) : ((List (Int × (Int × ((List Int) × (Int × Unit))))) × Unit) → Option ((List Int) × Int × Unit) := fun (l_1, _) =>
  (e_plan_proper n_ (l_1, ())).bind fun (r19, _) =>
  (bif (r19 != ((0) : Int)) then (
  some ([], r19, ())) else (
  (loopN (σ := (Int × (List Int) × Unit)) (ρ := ((List Int) × Unit)) (fun (s_20, out_21, _) =>
  (bif (decide (s_20 < (((l_1).length : Nat) : Int))) then (
  (getI l_1 s_20).bind fun y22 =>
  (loopN (σ := (Int × Int × (List Int) × (Int × (Int × ((List Int) × (Int × Unit)))) × Unit)) (ρ := (Int × (List Int) × Unit)) (fun (work_23, s_24, out_25, f_26, _) =>
  (bif (decide (s_24 < (IntKind.i64.wrap (y22.2.1 - y22.1)))) then (
  (quoO IntKind.i64 (IntKind.i64.wrap ((IntKind.i64.wrap ((IntKind.i64.wrap ((((f_26.2.2.1).length : Nat) : Int) - ((1) : Int))) - s_24)) * (IntKind.i64.wrap ((IntKind.i64.wrap ((IntKind.i64.wrap ((((f_26.2.2.1).length : Nat) : Int) - ((1) : Int))) - s_24)) + ((1) : Int))))) ((2) : Int)).bind fun y27 =>
  some (.inl ((IntKind.i64.wrap (work_23 + (IntKind.i64.wrap ((IntKind.i64.wrap (((1) : Int) + (IntKind.i64.wrap ((IntKind.i64.wrap ((((f_26.2.2.1).length : Nat) : Int) - ((1) : Int))) - s_24)))) + y27)))), (IntKind.i64.wrap (s_24 + ((1) : Int))), out_25, f_26, ()))) else (
  some (.inr (work_23, out_25, ()))))) n_ (((0) : Int), ((0) : Int), out_21, y22, ())).bind fun (work_28, out_29, _) =>
  (limO ((out_29).length + ([work_28]).length)).bind fun _ =>
  some (.inl ((IntKind.i64.wrap (s_20 + ((1) : Int))), (out_29 ++ [work_28]), ()))) else (
  some (.inr (out_21, ()))))) n_ (((0) : Int), [], ())).bind fun (out_30, _) =>
  some (out_30, ((0) : Int), ())))
set_option maxHeartbeats 4000000 in
theorem le_plan_Work (n_ : Nat) (a : ((List (Int × (Int × ((List Int) × (Int × Unit))))) × Unit)) : Le (e_plan_Work n_ a) (d_plan_Work a) := by
  unfold e_plan_Work d_plan_Work
  repeat' (first | with_reducible exact Le.refl _ | with_reducible exact le_plan_proper _ _ | (with_reducible refine Le.bind ?_ (fun y => ?_)) | (with_reducible refine Le.bif ?_ ?_) | (with_reducible refine Le.loop (fun s => ?_) _ _) | (with_reducible refine Le.atO (fun e => ?_)) | split)
noncomputable def e_plan_Subtrees (n_ : Nat) : ((List (Int × (Int × ((List Int) × (Int × Unit))))) × Unit) → Option ((List Int) × Int × Unit) := fun (l_1, _) =>
  (e_plan_Work n_ (l_1, ())).bind fun (r23, r24, _) =>
  (bif (r24 != ((0) : Int)) then (
  some ([], r24, ())) else (
  (loopN (σ := (Int × (List Int) × Unit)) (ρ := ((List Int) × Unit)) (fun (s_25, out_26, _) =>
  (bif (decide (s_25 < (((l_1).length : Nat) : Int))) then (
  Option.bind (α := ((List Int) × Unit)) (
  (getI l_1 s_25).bind fun y27 =>
  (bif (decide (y27.2.2.2.1 ≥ ((0) : Int))) then (
  (idxN (out_26).length y27.2.2.2.1).bind fun k28 =>
  ((atO out_26 k28 fun e29 => some e29)).bind fun y30 =>
  (idxN (out_26).length s_25).bind fun k31 =>
  ((atO out_26 k31 fun e32 => some e32)).bind fun y33 =>
  (idxN (out_26).length y27.2.2.2.1).bind fun k34 =>
  ((atO out_26 k34 fun _ => some ((out_26).set k34 (IntKind.i64.wrap (y30 + y33))))).bind fun z36 =>
  some (z36, ())) else (
  some (out_26, ())))) fun (out_37, _) =>
  some (.inl ((IntKind.i64.wrap (s_25 + ((1) : Int))), out_37, ()))) else (
  some (.inr (out_26, ()))))) n_ (((0) : Int), r23, ())).bind fun (out_38, _) =>
  some (out_38, ((0) : Int), ())))
set_option maxHeartbeats 4000000 in
theorem le_plan_Subtrees (n_ : Nat) (a : ((List (Int × (Int × ((List Int) × (Int × Unit))))) × Unit)) : Le (e_plan_Subtrees n_ a) (d_plan_Subtrees a) := by
  unfold e_plan_Subtrees d_plan_Subtrees
  repeat' (first | with_reducible exact Le.refl _ | with_reducible exact le_plan_Work _ _ | (with_reducible refine Le.bind ?_ (fun y => ?_)) | (with_reducible refine Le.bif ?_ ?_) | (with_reducible refine Le.loop (fun s => ?_) _ _) | (with_reducible refine Le.atO (fun e => ?_)) | split)
noncomputable def e_plan_division_before (n_ : Nat) : ((Option ((List (Int × (Int × ((List Int) × (Int × Unit))))) × ((List Int) × ((List (List Int)) × ((List Int) × ((List Int) × Unit)))))) × Int × Int × Unit) → Option (Bool × Unit) := fun (d_1, i_2, j_3, _) =>
  (d_1).bind fun y4 =>
  (getI y4.2.1 i_2).bind fun y5 =>
  (d_1).bind fun y6 =>
  (getI y6.2.1 j_3).bind fun y7 =>
  (bif ((decide (y5 > y7)) == false) then ((d_1).bind fun y8 =>
  (getI y8.2.1 i_2).bind fun y9 =>
  (d_1).bind fun y10 =>
  (getI y10.2.1 j_3).bind fun y11 =>
  (bif ((y9 == y11) == true) then (some ((decide (i_2 < j_3)), ())) else (some (false, ())))) else (some (true, ())))
set_option maxHeartbeats 4000000 in
theorem le_plan_division_before (n_ : Nat) (a : ((Option ((List (Int × (Int × ((List Int) × (Int × Unit))))) × ((List Int) × ((List (List Int)) × ((List Int) × ((List Int) × Unit)))))) × Int × Int × Unit)) : Le (e_plan_division_before n_ a) (d_plan_division_before a) := by
  unfold e_plan_division_before d_plan_division_before
  repeat' (first | with_reducible exact Le.refl _  | (with_reducible refine Le.bind ?_ (fun y => ?_)) | (with_reducible refine Le.bif ?_ ?_) | (with_reducible refine Le.loop (fun s => ?_) _ _) | (with_reducible refine Le.atO (fun e => ?_)) | split)
noncomputable def e_plan_division_greatest (n_ : Nat) : ((Option ((List (Int × (Int × ((List Int) × (Int × Unit))))) × ((List Int) × ((List (List Int)) × ((List Int) × ((List Int) × Unit)))))) × Unit) → Option (Int × Unit) := fun (d_1, _) =>
  (d_1).bind fun y2 =>
  (loopN (σ := (Int × Int × Unit)) (ρ := (Int × Unit)) (fun (best_3, s_4, _) =>
  (bif (decide (s_4 < (((y2.2.2.2.1).length : Nat) : Int))) then (
  Option.bind (α := (Int × Unit)) (
  (getI y2.2.2.2.1 s_4).bind fun y5 =>
  (d_1).bind fun y6 =>
  (getI y6.2.2.1 y5).bind fun y7 =>
  (bif ((((y7).length : Nat) : Int) == ((0) : Int)) then (
  some (best_3, ())) else (
  Option.bind (α := (Bool × Unit)) (
  (bif ((decide (best_3 < ((0) : Int))) == false) then ((d_1).bind fun y8 =>
  (getI y8.2.2.2.1 best_3).bind fun y9 =>
  (e_plan_division_before n_ (d_1, y5, y9, ())).bind fun (r10, _) =>
  some (r10, ())) else (some (true, ())))) fun (s_11, _) =>
  (bif s_11 then (
  some (s_4, ())) else (
  some (best_3, ())))))) fun (best_12, _) =>
  some (.inl (best_12, (IntKind.i64.wrap (s_4 + ((1) : Int))), ()))) else (
  some (.inr (best_3, ()))))) n_ ((-1 : Int), ((0) : Int), ())).bind fun (best_13, _) =>
  some (best_13, ())
set_option maxHeartbeats 4000000 in
theorem le_plan_division_greatest (n_ : Nat) (a : ((Option ((List (Int × (Int × ((List Int) × (Int × Unit))))) × ((List Int) × ((List (List Int)) × ((List Int) × ((List Int) × Unit)))))) × Unit)) : Le (e_plan_division_greatest n_ a) (d_plan_division_greatest a) := by
  unfold e_plan_division_greatest d_plan_division_greatest
  repeat' (first | with_reducible exact Le.refl _ | with_reducible exact le_plan_division_before _ _ | (with_reducible refine Le.bind ?_ (fun y => ?_)) | (with_reducible refine Le.bif ?_ ?_) | (with_reducible refine Le.loop (fun s => ?_) _ _) | (with_reducible refine Le.atO (fun e => ?_)) | split)
noncomputable def e_slices_SortI (n_ : Nat) : List Int × Unit → Option (List Int × Unit) := fun a => (limO a.1.length).bind fun _ => some (sortI a.1, ())
theorem le_slices_SortI (n_ : Nat) (a : List Int × Unit) : Le (e_slices_SortI n_ a) (d_slices_SortI a) := Le.refl _
noncomputable def e_plan_divide (n_ : Nat) : ((List (Int × (Int × ((List Int) × (Int × Unit))))) × (List Int) × Int × Unit) → Option (((List (Int × (Int × ((List Int) × (Int × Unit))))) × ((List Int) × ((List (List Int)) × ((List Int) × ((List Int) × Unit))))) × Unit) := fun (l_1, subtrees_2, workers_3, _) =>
  Option.bind (x1S (l_1, subtrees_2, ())) fun x4 =>
  (loopN (σ := (Int × ((List (Int × (Int × ((List Int) × (Int × Unit))))) × ((List Int) × ((List (List Int)) × ((List Int) × ((List Int) × Unit))))) × Unit)) (ρ := (((List (Int × (Int × ((List Int) × (Int × Unit))))) × ((List Int) × ((List (List Int)) × ((List Int) × ((List Int) × Unit))))) × Unit)) (fun (s_5, d_6, _) =>
  (bif (decide (s_5 < (((l_1).length : Nat) : Int))) then (
  Option.bind (α := (((List (Int × (Int × ((List Int) × (Int × Unit))))) × ((List Int) × ((List (List Int)) × ((List Int) × ((List Int) × Unit))))) × Unit)) (
  (getI l_1 s_5).bind fun y7 =>
  (bif (decide (y7.2.2.2.1 ≥ ((0) : Int))) then (
  Option.bind (x6S (d_6, y7, s_5, ())) fun x8 =>
  some (x8, ())) else (
  Option.bind (x7S (d_6, s_5, ())) fun x9 =>
  some (x9, ())))) fun (d_10, _) =>
  some (.inl ((IntKind.i64.wrap (s_5 + ((1) : Int))), d_10, ()))) else (
  some (.inr (d_6, ()))))) n_ (((0) : Int), x4, ())).bind fun (d_11, _) =>
  (loopN (σ := (((List (Int × (Int × ((List Int) × (Int × Unit))))) × ((List Int) × ((List (List Int)) × ((List Int) × ((List Int) × Unit))))) × Unit)) (ρ := (((List (Int × (Int × ((List Int) × (Int × Unit))))) × ((List Int) × ((List (List Int)) × ((List Int) × ((List Int) × Unit))))) × Unit)) (fun (d_12, _) =>
  (bif (decide ((((d_12.2.2.2.1).length : Nat) : Int) < (IntKind.i64.wrap (((2) : Int) * workers_3)))) then (
  (e_plan_division_greatest n_ ((some d_12), ())).bind fun (r13, _) =>
  (bif (decide (r13 < ((0) : Int))) then (
  some (.inr (d_12, ()))) else (
  (idxN (d_12.2.2.2.1).length r13).bind fun k14 =>
  ((atO d_12.2.2.2.1 k14 fun e15 => some e15)).bind fun y16 =>
  Option.bind (x13S (d_12, y16, ())) fun x17 =>
  Option.bind (x14S (x17, r13, y16, ())) fun x18 =>
  some (.inl (x18, ()))))) else (
  some (.inr (d_12, ()))))) n_ (d_11, ())).bind fun (d_19, _) =>
  Option.bind (x15S (d_19, ())) fun x20 =>
  (e_slices_SortI n_ (x20.2.2.2.2.1, ())).bind fun (m21, _) =>
  some ((x20.1, (x20.2.1, (x20.2.2.1, (x20.2.2.2.1, (m21, x20.2.2.2.2.2))))), ())
set_option maxHeartbeats 4000000 in
theorem le_plan_divide (n_ : Nat) (a : ((List (Int × (Int × ((List Int) × (Int × Unit))))) × (List Int) × Int × Unit)) : Le (e_plan_divide n_ a) (d_plan_divide a) := by
  unfold e_plan_divide d_plan_divide
  repeat' (first | with_reducible exact Le.refl _ | with_reducible exact le_plan_division_greatest _ _ | with_reducible exact le_slices_SortI _ _ | (with_reducible refine Le.bind ?_ (fun y => ?_)) | (with_reducible refine Le.bif ?_ ?_) | (with_reducible refine Le.loop (fun s => ?_) _ _) | (with_reducible refine Le.atO (fun e => ?_)) | split)
noncomputable def e_plan_division_giveq_s (n_ : Nat) (f_ : ((Option ((List (Int × (Int × ((List Int) × (Int × Unit))))) × ((List Int) × ((List (List Int)) × ((List Int) × ((List Int) × Unit)))))) × ((List Int) × ((List Int) × Unit)) × Int × Int × Unit) → Option (((List Int) × ((List Int) × Unit)) × Unit)) : ((Option ((List (Int × (Int × ((List Int) × (Int × Unit))))) × ((List Int) × ((List (List Int)) × ((List Int) × ((List Int) × Unit)))))) × ((List Int) × ((List Int) × Unit)) × Int × Int × Unit) → Option (((List Int) × ((List Int) × Unit)) × Unit) := fun (d_1, p_2, i_3, w_4, _) =>
  (idxN (p_2.1).length i_3).bind fun k5 =>
  ((((atO p_2.1 k5 fun _ => some ((p_2.1).set k5 w_4))).map fun z7 => (z7, p_2.2))).bind fun z8 =>
  (d_1).bind fun y9 =>
  (getI y9.2.2.1 i_3).bind fun y10 =>
  (loopN (σ := (Int × ((List Int) × ((List Int) × Unit)) × Unit)) (ρ := (((List Int) × ((List Int) × Unit)) × Unit)) (fun (s_11, p_12, _) =>
  (bif (decide (s_11 < (((y10).length : Nat) : Int))) then (
  (getI y10 s_11).bind fun y13 =>
  (f_ (d_1, p_12, y13, w_4, ())).bind fun (m14, _) =>
  some (.inl ((IntKind.i64.wrap (s_11 + ((1) : Int))), m14, ()))) else (
  some (.inr (p_12, ()))))) n_ (((0) : Int), z8, ())).bind fun (p_15, _) =>
  some (p_15, ())
set_option maxHeartbeats 4000000 in
theorem le_plan_division_giveq_s (n_ : Nat) (f_ fb_ : ((Option ((List (Int × (Int × ((List Int) × (Int × Unit))))) × ((List Int) × ((List (List Int)) × ((List Int) × ((List Int) × Unit)))))) × ((List Int) × ((List Int) × Unit)) × Int × Int × Unit) → Option (((List Int) × ((List Int) × Unit)) × Unit)) (h_ : ∀ a, Le (f_ a) (fb_ a)) (a : ((Option ((List (Int × (Int × ((List Int) × (Int × Unit))))) × ((List Int) × ((List (List Int)) × ((List Int) × ((List Int) × Unit)))))) × ((List Int) × ((List Int) × Unit)) × Int × Int × Unit)) : Le (e_plan_division_giveq_s n_ f_ a) (r_plan_division_giveq_s fb_ a) := by
  unfold e_plan_division_giveq_s r_plan_division_giveq_s
  repeat' (first | with_reducible exact Le.refl _  | with_reducible exact h_ _ | (with_reducible refine Le.bind ?_ (fun y => ?_)) | (with_reducible refine Le.bif ?_ ?_) | (with_reducible refine Le.loop (fun s => ?_) _ _) | (with_reducible refine Le.atO (fun e => ?_)) | split)
noncomputable def e_plan_division_give (n_ : Nat) : ((Option ((List (Int × (Int × ((List Int) × (Int × Unit))))) × ((List Int) × ((List (List Int)) × ((List Int) × ((List Int) × Unit)))))) × ((List Int) × ((List Int) × Unit)) × Int × Int × Unit) → Option (((List Int) × ((List Int) × Unit)) × Unit) := deep (e_plan_division_giveq_s n_) n_
theorem le_plan_division_give (n_ : Nat) (a : ((Option ((List (Int × (Int × ((List Int) × (Int × Unit))))) × ((List Int) × ((List (List Int)) × ((List Int) × ((List Int) × Unit)))))) × ((List Int) × ((List Int) × Unit)) × Int × Int × Unit)) : Le (e_plan_division_give n_ a) (d_plan_division_give a) := Le.deep (le_plan_division_giveq_s n_) r_plan_division_giveq_mono n_ a
noncomputable def e_plan_Split (n_ : Nat) : ((List (Int × (Int × ((List Int) × (Int × Unit))))) × Int × Unit) → Option (((List Int) × ((List Int) × Unit)) × Int × Unit) := fun (l_1, workers_2, _) =>
  (e_plan_Work n_ (l_1, ())).bind fun (r32, r33, _) =>
  (bif (r33 != ((0) : Int)) then (
  some ((([] : (List Int)), (([] : (List Int)), ())), r33, ())) else (
  Option.bind (α := (((List Int) × ((List Int) × Unit)) × Unit) ⊕ (((List Int) × ((List Int) × Unit)) × Int × Unit)) (
  Option.bind (α := (Bool × ((List Int) × ((List Int) × Unit)) × Unit)) (
  (bif ((decide (workers_2 < ((1) : Int))) == false) then (some ((decide (workers_2 > ((8) : Int))), ([], ([], ())), ())) else (some (true, ([], ([], ())), ())))) fun (s_34, s_35, _) =>
  (bif s_34 then (
  some (.inr ((([] : (List Int)), (([] : (List Int)), ())), ((331) : Int), ()))) else (
  some (.inl (s_35, ()))))) fun q => match q with
  | .inl (s_36, _) => (
  (e_plan_Subtrees n_ (l_1, ())).bind fun (r37, _, _) =>
  (e_plan_divide n_ (l_1, r37, workers_2, ())).bind fun (r39, _) =>
  (madeO (((l_1).length : Nat) : Int) (((l_1).length : Nat) : Int)).bind fun n40 =>
  (madeO workers_2 workers_2).bind fun n41 =>
  (loopN (σ := (Int × ((List Int) × ((List Int) × Unit)) × ((List (Int × (Int × ((List Int) × (Int × Unit))))) × ((List Int) × ((List (List Int)) × ((List Int) × ((List Int) × Unit))))) × ((List Int) × ((List Int) × Unit)) × Unit)) (ρ := (((List Int) × ((List Int) × Unit)) × ((List (Int × (Int × ((List Int) × (Int × Unit))))) × ((List Int) × ((List (List Int)) × ((List Int) × ((List Int) × Unit))))) × ((List Int) × ((List Int) × Unit)) × Unit)) (fun (s_42, s_43, d_44, p_45, _) =>
  (bif (decide (s_42 < (((r39.2.2.2.1).length : Nat) : Int))) then (
  (idxN (d_44.2.2.2.1).length s_42).bind fun k46 =>
  ((atO d_44.2.2.2.1 k46 fun e47 => some e47)).bind fun y48 =>
  (loopN (σ := (Int × Int × ((List Int) × ((List Int) × Unit)) × ((List (Int × (Int × ((List Int) × (Int × Unit))))) × ((List Int) × ((List (List Int)) × ((List Int) × ((List Int) × Unit))))) × ((List Int) × ((List Int) × Unit)) × Unit)) (ρ := (Int × ((List Int) × ((List Int) × Unit)) × ((List (Int × (Int × ((List Int) × (Int × Unit))))) × ((List Int) × ((List (List Int)) × ((List Int) × ((List Int) × Unit))))) × ((List Int) × ((List Int) × Unit)) × Unit)) (fun (w_49, s_50, s_51, d_52, p_53, _) =>
  (bif (decide (s_50 < (((p_45.2.1).length : Nat) : Int))) then (
  Option.bind (α := (Int × ((List Int) × ((List Int) × Unit)) × ((List (Int × (Int × ((List Int) × (Int × Unit))))) × ((List Int) × ((List (List Int)) × ((List Int) × ((List Int) × Unit))))) × ((List Int) × ((List Int) × Unit)) × Unit)) (
  (idxN (p_53.2.1).length s_50).bind fun k54 =>
  ((atO p_53.2.1 k54 fun e55 => some e55)).bind fun y56 =>
  (idxN (p_53.2.1).length w_49).bind fun k57 =>
  ((atO p_53.2.1 k57 fun e58 => some e58)).bind fun y59 =>
  (bif (decide (y56 < y59)) then (
  some (s_50, s_51, d_52, p_53, ())) else (
  some (w_49, s_51, d_52, p_53, ())))) fun (w_60, s_61, d_62, p_63, _) =>
  some (.inl (w_60, (IntKind.i64.wrap (s_50 + ((1) : Int))), s_61, d_62, p_63, ()))) else (
  some (.inr (w_49, s_51, d_52, p_53, ()))))) n_ (((0) : Int), ((0) : Int), s_43, d_44, p_45, ())).bind fun (w_64, s_65, d_66, p_67, _) =>
  (e_plan_division_give n_ ((some d_66), p_67, y48, w_64, ())).bind fun (m68, _) =>
  (idxN (m68.2.1).length w_64).bind fun k69 =>
  ((atO m68.2.1 k69 fun e70 => some e70)).bind fun y71 =>
  (getI r37 y48).bind fun y72 =>
  (idxN (m68.2.1).length w_64).bind fun k73 =>
  ((((((atO m68.2.1 k73 fun _ => some ((m68.2.1).set k73 (IntKind.i64.wrap (y71 + y72))))).map fun z75 => (z75, m68.2.2))).map fun z76 => (m68.1, z76))).bind fun z77 =>
  some (.inl ((IntKind.i64.wrap (s_42 + ((1) : Int))), s_65, d_66, z77, ()))) else (
  some (.inr (s_43, d_44, p_45, ()))))) n_ (((0) : Int), s_36, r39, ((List.replicate n40 (0 : Int)), ((List.replicate n41 (0 : Int)), ())), ())).bind fun (s_78, d_79, p_80, _) =>
  (loopN (σ := (Int × ((List Int) × ((List Int) × Unit)) × ((List (Int × (Int × ((List Int) × (Int × Unit))))) × ((List Int) × ((List (List Int)) × ((List Int) × ((List Int) × Unit))))) × ((List Int) × ((List Int) × Unit)) × Unit)) (ρ := (((List Int) × ((List Int) × Unit)) × ((List Int) × ((List Int) × Unit)) × Unit)) (fun (s_81, s_82, d_83, p_84, _) =>
  (bif (decide (s_81 < (((d_79.2.2.2.2.1).length : Nat) : Int))) then (
  (idxN (d_83.2.2.2.2.1).length s_81).bind fun k85 =>
  ((atO d_83.2.2.2.2.1 k85 fun e86 => some e86)).bind fun y87 =>
  (idxN (d_83.2.2.1).length y87).bind fun k88 =>
  (((atO d_83.2.2.1 k88 fun e90 => some e90)).bind fun e91 => idxN (e91).length ((0) : Int)).bind fun k92 =>
  ((atO d_83.2.2.1 k88 fun e93 => (atO e93 k92 fun e94 => some e94))).bind fun y95 =>
  (idxN (d_83.2.2.1).length y87).bind fun k96 =>
  ((atO d_83.2.2.1 k96 fun e98 => some e98)).bind fun xs99 =>
  (loopN (σ := (Int × Nat × Int × ((List Int) × ((List Int) × Unit)) × ((List (Int × (Int × ((List Int) × (Int × Unit))))) × ((List Int) × ((List (List Int)) × ((List Int) × ((List Int) × Unit))))) × ((List Int) × ((List Int) × Unit)) × Unit)) (ρ := (Int × ((List Int) × ((List Int) × Unit)) × ((List (Int × (Int × ((List Int) × (Int × Unit))))) × ((List Int) × ((List (List Int)) × ((List Int) × ((List Int) × Unit))))) × ((List Int) × ((List Int) × Unit)) × Unit)) (fun (heaviest_100, s_101, s_102, s_103, d_104, p_105, _) =>
  (bif (decide (s_102 < (((xs99).length : Nat) : Int))) then (
  Option.bind (α := (Int × Nat × ((List Int) × ((List Int) × Unit)) × ((List (Int × (Int × ((List Int) × (Int × Unit))))) × ((List Int) × ((List (List Int)) × ((List Int) × ((List Int) × Unit))))) × ((List Int) × ((List Int) × Unit)) × Unit)) (
  (((atO d_104.2.2.1 s_101 fun e106 => some e106)).bind fun e107 => idxN (e107).length s_102).bind fun k108 =>
  ((atO d_104.2.2.1 s_101 fun e109 => (atO e109 k108 fun e110 => some e110))).bind fun y111 =>
  (e_plan_division_before n_ ((some d_104), y111, heaviest_100, ())).bind fun (r112, _) =>
  (bif r112 then (
  some (y111, s_101, s_103, d_104, p_105, ())) else (
  some (heaviest_100, s_101, s_103, d_104, p_105, ())))) fun (heaviest_113, s_114, s_115, d_116, p_117, _) =>
  some (.inl (heaviest_113, s_114, (IntKind.i64.wrap (s_102 + ((1) : Int))), s_115, d_116, p_117, ()))) else (
  some (.inr (heaviest_100, s_103, d_104, p_105, ()))))) n_ (y95, k96, ((0) : Int), s_82, d_83, p_84, ())).bind fun (heaviest_118, s_119, d_120, p_121, _) =>
  (idxN (p_121.1).length heaviest_118).bind fun k122 =>
  ((atO p_121.1 k122 fun e123 => some e123)).bind fun y124 =>
  (idxN (p_121.1).length y87).bind fun k125 =>
  ((((atO p_121.1 k125 fun _ => some ((p_121.1).set k125 y124))).map fun z127 => (z127, p_121.2))).bind fun z128 =>
  (idxN (z128.1).length y87).bind fun k129 =>
  ((atO z128.1 k129 fun e130 => some e130)).bind fun y131 =>
  (idxN (z128.2.1).length y131).bind fun k132 =>
  ((atO z128.2.1 k132 fun e133 => some e133)).bind fun y134 =>
  (getI r32 y87).bind fun y135 =>
  (idxN (z128.2.1).length y131).bind fun k136 =>
  ((((((atO z128.2.1 k136 fun _ => some ((z128.2.1).set k136 (IntKind.i64.wrap (y134 + y135))))).map fun z138 => (z138, z128.2.2))).map fun z139 => (z128.1, z139))).bind fun z140 =>
  some (.inl ((IntKind.i64.wrap (s_81 + ((1) : Int))), s_119, d_120, z140, ()))) else (
  some (.inr (s_82, p_84, ()))))) n_ (((0) : Int), s_78, d_79, p_80, ())).bind fun (_, p_142, _) =>
  some (p_142, ((0) : Int), ()))
  | .inr r => some r))
set_option maxHeartbeats 4000000 in
theorem le_plan_Split (n_ : Nat) (a : ((List (Int × (Int × ((List Int) × (Int × Unit))))) × Int × Unit)) : Le (e_plan_Split n_ a) (d_plan_Split a) := by
  unfold e_plan_Split d_plan_Split
  repeat' (first | with_reducible exact Le.refl _ | with_reducible exact le_plan_Work _ _ | with_reducible exact le_plan_Subtrees _ _ | with_reducible exact le_plan_divide _ _ | with_reducible exact le_plan_division_give _ _ | with_reducible exact le_plan_division_before _ _ | (with_reducible refine Le.bind ?_ (fun y => ?_)) | (with_reducible refine Le.bif ?_ ?_) | (with_reducible refine Le.loop (fun s => ?_) _ _) | (with_reducible refine Le.atO (fun e => ?_)) | split)
noncomputable def e_sparselaw32q_awake (n_ : Nat) : Unit → Option (Bool × Unit) := fun _ =>
  (e_sparselaw32q_front n_ (((0) : Int), ((1) : Int), ((2) : Int), (-1 : Int), ())).bind fun (r1, _) =>
  (e_sparselaw32q_front n_ (((1) : Int), ((1) : Int), ((1) : Int), (-1 : Int), ())).bind fun (r2, _) =>
  (e_plan_Split n_ ([r1, r2], ((2) : Int), ())).bind fun (r3, r4, _) =>
  (bif ((r4 == ((0) : Int)) == true) then ((e_sparsekit_Ints n_ (r3.1, [((0) : Int), ((1) : Int)], ())).bind fun (r5, _) =>
  (bif (r5 == true) then ((e_sparsekit_Ints n_ (r3.2.1, [((3) : Int), ((1) : Int)], ())).bind fun (r6, _) =>
  some (r6, ())) else (some (false, ())))) else (some (false, ())))
set_option maxHeartbeats 4000000 in
theorem le_sparselaw32q_awake (n_ : Nat) (a : Unit) : Le (e_sparselaw32q_awake n_ a) (d_sparselaw32q_awake a) := by
  unfold e_sparselaw32q_awake d_sparselaw32q_awake
  repeat' (first | with_reducible exact Le.refl _ | with_reducible exact le_sparsekit_Ints _ _ | with_reducible exact le_plan_Split _ _ | with_reducible exact le_sparselaw32q_front _ _ | (with_reducible refine Le.bind ?_ (fun y => ?_)) | (with_reducible refine Le.bif ?_ ?_) | (with_reducible refine Le.loop (fun s => ?_) _ _) | (with_reducible refine Le.atO (fun e => ?_)) | split)
end Go.Fw
theorem Go.Fw.awake32 : Go.Fw.d_sparselaw32q_awake () = some (true, ()) := Go.Fw.le_sparselaw32q_awake 20 () _ (by decide +kernel)
end

section
namespace Go.Fw
set_option linter.unusedSimpArgs false
set_option linter.unusedVariables false
open Go
section
variable {l : List FrT} (hr : ∀ x ∈ l, InR x) (hc : ∀ x ∈ l, x.2.2.1.length < 4611686018427387904)
include hr hc
open Classical in
theorem refProper32_eq : d_sparseref32q_Proper (l, ()) = some (decide (Prp l), ()) := by
  unfold d_sparseref32q_Proper
  simp only [cond_dec]
  by_cases hl : ((l.length : Nat) : Int) > 200
  · rw [if_pos hl, decF (fun h : Prp l => by have := h.1; omega)]
  rw [if_neg hl, ← Ok.eq_iff]
  refine Ok.bind_of (P := fun q => match q with | .inl _ => Prp l | .inr r => r = (false, ()) ∧ ¬ Prp l) ?_ ?_
  · refine Ok.for l.length (fun i _ => ∀ j, (h : j < l.length) → j < i → PrpI l.length j l[j]) (i0 := 0) rfl (fun j _ h => by omega) (Nat.zero_le _) ?_ ?_
    · rintro i ⟨⟩ _ hi hI
      have hg : getI l (i : Int) = some l[i] := getN_some (List.getElem?_eq_getElem hi)
      obtain ⟨⟨r1, r2⟩, r3, r4⟩ := hr _ (List.getElem_mem hi)
      have hcl := hc _ (List.getElem_mem hi)
      generalize hx : l[i] = x at *
      have bad : ¬ PrpI l.length i x → ¬ Prp l := fun h hp => h (hx ▸ hp.2 i hi)
      simp (disch := omega) only [if_pos, hg, Option.bind_some, cond_dec_beqF, cond_dec_beq, bneI, wrap_inc]
      by_cases c1 : ((x.2.2.1.length : Nat) : Int) > 200
      · rw [if_pos c1]; exact Ok.some_iff.2 ⟨rfl, bad fun h => by have := h.1; omega⟩
      rw [if_neg c1]
      by_cases c2 : x.2.1 ≤ x.1
      · rw [if_pos c2]; exact Ok.some_iff.2 ⟨rfl, bad fun h => by have := h.2.1; omega⟩
      rw [if_neg c2]
      have hu : IntKind.u64.wrap (IntKind.u64.wrap x.2.1 - IntKind.u64.wrap x.1) = x.2.1 - x.1 := by
        rw [wrapU64q_eq, wrapU64q_eq, wrapU64q_eq]; omega
      rw [hu, wrapUq_eq _ (by omega) (by omega)]
      by_cases c4 : x.2.1 - x.1 > ((x.2.2.1.length : Nat) : Int)
      · rw [if_pos c4]
        exact Ok.some_iff.2 ⟨rfl, bad fun h => by have := h.2.2.1; omega⟩
      rw [if_neg c4]
      have hd : x.2.1 - x.1 ≤ (x.2.2.1.length : Int) := by omega
      by_cases c5 : x.2.2.2.1 = -1
      · rw [decT c5]
        refine Ok.some_iff.2 ⟨rfl, fun j hj hji => ?_⟩
        by_cases e : j = i
        · subst e; rw [hx]; exact ⟨by omega, by omega, hd, .inl c5⟩
        · exact hI j hj (by omega)
      rw [decF c5]
      simp only [Bool.not_false, beq_self_eq_true, cond_true]
      by_cases c6 : x.2.2.2.1 ≤ (i : Int)
      · rw [if_pos c6]
        exact Ok.some_iff.2 ⟨rfl, bad fun h => by have := h.2.2.2; omega⟩
      rw [if_neg c6]
      by_cases c7 : x.2.2.2.1 ≥ ((l.length : Nat) : Int)
      · rw [if_pos c7]
        exact Ok.some_iff.2 ⟨rfl, bad fun h => by have := h.2.2.2; omega⟩
      rw [if_neg c7]
      refine Ok.some_iff.2 ⟨rfl, fun j hj hji => ?_⟩
      by_cases e : j = i
      · subst e; rw [hx]; exact ⟨by omega, by omega, hd, .inr ⟨by omega, by omega⟩⟩
      · exact hI j hj (by omega)
    · rintro ⟨⟩ hI
      simp (disch := omega) only [if_neg]
      exact Ok.some_iff.2 ⟨by omega, fun i hi => hI i hi hi⟩
  · rintro (q | q) hq
    · exact Ok.some_iff.2 (by rw [decT (show Prp l from hq)])
    · exact Ok.some_iff.2 (by rw [hq.1, decF hq.2])
open Classical in
theorem proper32_eq : d_plan_proper (l, ()) = some (if Prp l then 0 else 211, ()) := by
  unfold d_plan_proper d_memory_Sizes
  simp only [proper_eq hr hc, Option.bind_some, cond_not_dec]
  by_cases hp : Prp l
  · simp only [if_pos hp, sizes_eq hp hr, Option.bind_some]
  · simp only [if_neg hp, Option.bind_some]
end
def sumT (f : Nat → Nat) : Nat → Nat
  | 0 => 0
  | n + 1 => sumT f n + f n
theorem sumT_le {f : Nat → Nat} {b : Nat} : ∀ {n : Nat}, (∀ i, i < n → f i ≤ b) → sumT f n ≤ n * b
  | 0, _ => by simp [sumT]
  | n + 1, h => by
      have h1 := sumT_le (n := n) (fun i hi => h i (by omega))
      have h2 := h n (by omega)
      simp only [sumT, Nat.succ_mul]
      omega
theorem sumT_congr {f g : Nat → Nat} : ∀ {n : Nat}, (∀ i, i < n → f i = g i) → sumT f n = sumT g n
  | 0, _ => rfl
  | n + 1, h => by simp only [sumT]; rw [sumT_congr (n := n) (fun i hi => h i (by omega)), h n (by omega)]
def wkC (r c : Nat) : Nat := 1 + (r - 1 - c) + tri (r - 1 - c)
def wkN (l : List FrT) (i : Nat) : Nat := sumT (wkC (rwN l i)) (rwN l i - kpN l i)
theorem wkC_le {r c : Nat} (h : r ≤ 200) : wkC r c ≤ 20300 := by
  unfold wkC
  have := tri_le (n := r - 1 - c) (by omega)
  omega
section
variable {l : List FrT} (hp : Prp l) (hr : ∀ x ∈ l, InR x)
include hp hr
omit hr in
theorem wkN_le (i : Nat) : wkN l i ≤ 4060000 := by
  unfold wkN
  by_cases hi : i < l.length
  · have h1 := (hp.at hi).1
    have := sumT_le (f := wkC (rwN l i)) (b := 20300) (n := rwN l i - kpN l i) (fun c _ => wkC_le h1)
    have h2 : (rwN l i - kpN l i) * 20300 ≤ 200 * 20300 := Nat.mul_le_mul_right _ (by omega)
    omega
  · have : rwN l i = 0 := by unfold rwN; rw [List.getElem?_eq_none (by omega)]
    rw [this]; simp [sumT]
omit hr in
theorem col_eq {i c : Nat} (hi : i < l.length) (hcc : c < rwN l i - kpN l i) :
    IntKind.i64.wrap (IntKind.i64.wrap (((l[i].2.2.1.length : Nat) : Int) - 1) - (c : Int)) = ((rwN l i - 1 - c : Nat) : Int) ∧
    quoO IntKind.i64 (IntKind.i64.wrap (((rwN l i - 1 - c : Nat) : Int) * IntKind.i64.wrap (((rwN l i - 1 - c : Nat) : Int) + 1))) 2 = some (tri (rwN l i - 1 - c) : Int) := by
  obtain ⟨a1, a2, a3, a4, a5⟩ := hp.at hi
  refine ⟨?_, tri_quo (by omega)⟩
  rw [a3, wrap64 (x := ((rwN l i : Nat) : Int) - 1) (by omega) (by omega), wrap64 (by omega) (by omega)]
  omega
theorem Work_eq : d_plan_Work (l, ()) = some (fT l.length (fun i => (wkN l i : Int)), 0, ()) := by
  have hn := hp.1
  have hc : ∀ x ∈ l, x.2.2.1.length < 4611686018427387904 := fun x hx => by
    obtain ⟨i, hi, rfl⟩ := List.mem_iff_getElem.1 hx
    have := (hp.2 i hi).1; omega
  unfold d_plan_Work
  simp only [proper32_eq hr hc, if_pos hp, Option.bind_some, bneI, Bool.not_true, decide_true, cond_false]
  refine bindR (fT l.length (fun i => (wkN l i : Int)), ()) rfl (loop_for l.length (fun k => (fT k (fun i => (wkN l i : Int)), ())) 0 rfl rfl (Nat.zero_le _) ?_ ?_)
  · intro k _ hk
    have hg : getI l (k : Int) = some l[k] := getN_some (List.getElem?_eq_getElem hk)
    obtain ⟨a1, a2, a3, a4, a5⟩ := hp.at hk
    obtain ⟨⟨r1, r2⟩, r3, r4⟩ := hr _ (List.getElem_mem hk)
    have h1 := (hp.2 k hk).2.1
    have ew : IntKind.i64.wrap (l[k].2.1 - l[k].1) = ((rwN l k - kpN l k : Nat) : Int) := by rw [wrap64 (by omega) (by omega)]; omega
    simp (disch := omega) only [cond_dec, if_pos, hg, Option.bind_some, ew]
    have inner : loop (fun (x : Int × Int × (List Int) × (Int × (Int × ((List Int) × (Int × Unit)))) × Unit) => match x with
        | (work_23, s_24, out_25, f_26, _) =>
          if s_24 < ((rwN l k - kpN l k : Nat) : Int) then
            (quoO IntKind.i64 (IntKind.i64.wrap ((IntKind.i64.wrap ((IntKind.i64.wrap ((((f_26.2.2.1).length : Nat) : Int) - ((1) : Int))) - s_24)) * (IntKind.i64.wrap ((IntKind.i64.wrap ((IntKind.i64.wrap ((((f_26.2.2.1).length : Nat) : Int) - ((1) : Int))) - s_24)) + ((1) : Int))))) ((2) : Int)).bind fun y27 =>
              some (Sum.inl ((IntKind.i64.wrap (work_23 + (IntKind.i64.wrap ((IntKind.i64.wrap (((1) : Int) + (IntKind.i64.wrap ((IntKind.i64.wrap ((((f_26.2.2.1).length : Nat) : Int) - ((1) : Int))) - s_24)))) + y27)))), (IntKind.i64.wrap (s_24 + ((1) : Int))), out_25, f_26, ()))
          else some (.inr (work_23, out_25, ()))) (0, 0, fT k (fun i => (wkN l i : Int)), l[k], ()) = some ((wkN l k : Int), fT k (fun i => (wkN l i : Int)), ()) := by
      refine loop_seq (rwN l k - kpN l k) (fun c => ((sumT (wkC (rwN l k)) c : Int), (c : Int), fT k (fun i => (wkN l i : Int)), l[k], ())) 0 rfl (Nat.zero_le _) ?_ ?_
      · intro c _ hcc
        obtain ⟨e1, e2⟩ := col_eq hp hk hcc
        have hs := sumT_le (f := wkC (rwN l k)) (b := 20300) (n := c) (fun c _ => wkC_le a1)
        have hs2 : c * 20300 ≤ 200 * 20300 := Nat.mul_le_mul_right _ (by omega)
        have ht := tri_le (n := rwN l k - 1 - c) (by omega)
        simp only [if_pos (show (c : Int) < ((rwN l k - kpN l k : Nat) : Int) by omega), e1, e2, Option.bind_some]
        rw [wrap64 (x := 1 + ((rwN l k - 1 - c : Nat) : Int)) (by omega) (by omega), wrap64 (x := 1 + ((rwN l k - 1 - c : Nat) : Int) + (tri (rwN l k - 1 - c) : Int)) (by omega) (by omega), wrap_inc (by omega), wrap64 (by omega) (by omega)]
        refine congrArg (fun a => some (Sum.inl (a, ((c + 1 : Nat) : Int), fT k (fun i => (wkN l i : Int)), l[k], ()))) ?_
        simp only [sumT, wkC]
        omega
      · simp only [if_neg (show ¬ ((rwN l k - kpN l k : Nat) : Int) < ((rwN l k - kpN l k : Nat) : Int) by omega)]
        rfl
    refine bindR _ ?_ inner
    simp (disch := first | omega | (simp [fT_length]; omega)) only [limO_ok, Option.bind_some, wrap_inc, fT_succ]
  · simp (disch := omega) only [cond_dec, if_neg]
end
end Go.Fw
end

section
namespace Go.Fw
set_option linter.unusedSimpArgs false
set_option linter.unusedVariables false
open Go
section
open Classical
noncomputable def sumW (w : Nat → Nat) (P : Nat → Prop) (n : Nat) : Nat := sumT (fun j => if P j then w j else 0) n
theorem sumW_congr {w : Nat → Nat} {P Q : Nat → Prop} {n : Nat} (h : ∀ j, j < n → (P j ↔ Q j)) : sumW w P n = sumW w Q n := by
  refine sumT_congr fun j hj => ?_
  by_cases hp : P j
  · rw [if_pos hp, if_pos ((h j hj).1 hp)]
  · rw [if_neg hp, if_neg (fun hq => hp ((h j hj).2 hq))]
theorem sumW_le {w : Nat → Nat} {P : Nat → Prop} {b n : Nat} (h : ∀ j, w j ≤ b) : sumW w P n ≤ n * b := by
  refine sumT_le fun j hj => ?_
  by_cases hp : P j
  · rw [if_pos hp]; exact h j
  · rw [if_neg hp]; omega
theorem sumW_or {w : Nat → Nat} {P Q : Nat → Prop} : ∀ {n : Nat}, (∀ j, j < n → P j → ¬ Q j) → sumW w (fun j => P j ∨ Q j) n = sumW w P n + sumW w Q n
  | 0, _ => rfl
  | n + 1, h => by
      have ih := sumW_or (w := w) (P := P) (Q := Q) (n := n) (fun j hj => h j (by omega))
      unfold sumW at ih ⊢
      simp only [sumT, ih]
      have := h n (by omega)
      by_cases hp : P n <;> by_cases hq : Q n
      · exact absurd hq (this hp)
      · simp [hp, hq]; omega
      · simp [hp, hq]; omega
      · simp [hp, hq]
theorem sumW_none {w : Nat → Nat} {P : Nat → Prop} : ∀ {n : Nat}, (∀ j, j < n → ¬ P j) → sumW w P n = 0
  | 0, _ => rfl
  | n + 1, h => by
      have ih := sumW_none (w := w) (P := P) (n := n) (fun j hj => h j (by omega))
      unfold sumW at ih ⊢
      simp only [sumT, ih, if_neg (h n (by omega))]
theorem sumW_one {w : Nat → Nat} {i n : Nat} (hi : i < n) : sumW w (fun j => j = i) n = w i := by
  induction n with
  | zero => omega
  | succ n ih =>
    by_cases e : n = i
    · subst e
      have := sumW_none (w := w) (P := fun j => j = n) (n := n) (fun j hj e => by omega)
      unfold sumW at this ⊢
      simp only [sumT, this, if_true, Nat.zero_add]
    · have := ih (by omega)
      unfold sumW at this ⊢
      simp only [sumT, this, if_neg e, Nat.add_zero]
end
def SubK (n : Nat) (f : Nat → Int) (k j i : Nat) : Prop := j = i ∨ ∃ c, c < k ∧ RelF n f c i ∧ Sub n f j c
section
variable {n : Nat} {f : Nat → Int} (hf : PF n f)
include hf
theorem SubK.all {j i : Nat} : SubK n f n j i ↔ Sub n f j i := by
  rw [Sub.last_iff]
  unfold SubK
  constructor
  · rintro (h | ⟨c, _, h1, h2⟩)
    · exact .inl h
    · exact .inr ⟨c, h2, h1⟩
  · rintro (h | ⟨c, h1, h2⟩)
    · exact .inl h
    · exact .inr ⟨c, h2.1, h2, h1⟩
theorem SubK.own {j k : Nat} : SubK n f k j k ↔ Sub n f j k := by
  rw [Sub.last_iff]
  unfold SubK
  constructor
  · rintro (h | ⟨c, _, h1, h2⟩)
    · exact .inl h
    · exact .inr ⟨c, h2, h1⟩
  · rintro (h | ⟨c, h1, h2⟩)
    · exact .inl h
    · exact .inr ⟨c, (h2.lt hf).1, h2, h1⟩
omit hf in
theorem SubK.succ {k j i : Nat} : SubK n f (k + 1) j i ↔ SubK n f k j i ∨ (RelF n f k i ∧ Sub n f j k) := by
  unfold SubK
  constructor
  · rintro (h | ⟨c, h0, h1, h2⟩)
    · exact .inl (.inl h)
    · by_cases e : c = k
      · subst e; exact .inr ⟨h1, h2⟩
      · exact .inl (.inr ⟨c, by omega, h1, h2⟩)
  · rintro ((h | ⟨c, h0, h1, h2⟩) | ⟨h1, h2⟩)
    · exact .inl h
    · exact .inr ⟨c, by omega, h1, h2⟩
    · exact .inr ⟨k, by omega, h1, h2⟩
theorem SubK.apart {k j i : Nat} (h : SubK n f k j i) : ¬ (RelF n f k i ∧ Sub n f j k) := by
  rintro ⟨h1, h2⟩
  have h3 := h1.lt hf
  rcases h with rfl | ⟨c, h4, h5, h6⟩
  · have := (h2.le hf).1; omega
  · have := sub_apart hf h5 h1 h6 h2; omega
end
noncomputable def sbN (l : List FrT) (i : Nat) : Nat := sumW (wkN l) (fun j => Sub l.length (prL l) j i) l.length
noncomputable def sbK (l : List FrT) (k i : Nat) : Nat := sumW (wkN l) (fun j => SubK l.length (prL l) k j i) l.length
section
variable {l : List FrT} (hp : Prp l)
include hp
theorem sbK_le (k i : Nat) : sbK l k i ≤ 812000000 := by
  have := sumW_le (w := wkN l) (P := fun j => SubK l.length (prL l) k j i) (n := l.length) (fun j => wkN_le hp j)
  have h2 : l.length * 4060000 ≤ 200 * 4060000 := Nat.mul_le_mul_right _ hp.1
  unfold sbK
  omega
omit hp in
theorem sbK_zero {i : Nat} (hi : i < l.length) : sbK l 0 i = wkN l i := by
  unfold sbK
  rw [sumW_congr (Q := fun j => j = i) (fun j _ => ?_), sumW_one hi]
  constructor
  · rintro (h | ⟨c, h, _⟩)
    · exact h
    · omega
  · exact fun h => .inl h
theorem sbK_all (i : Nat) : sbK l l.length i = sbN l i := sumW_congr fun j _ => SubK.all (prL_pf hp)
theorem sbK_own (k : Nat) : sbK l k k = sbN l k := sumW_congr fun j _ => SubK.own (prL_pf hp)
theorem sbK_step {k i : Nat} (h : RelF l.length (prL l) k i) : sbK l (k + 1) i = sbK l k i + sbK l k k := by
  rw [sbK_own hp]
  unfold sbK sbN
  rw [sumW_congr (Q := fun j => SubK l.length (prL l) k j i ∨ Sub l.length (prL l) j k) (fun j _ => ?_), sumW_or (fun j _ h1 h2 => SubK.apart (prL_pf hp) h1 ⟨h, h2⟩)]
  rw [SubK.succ]
  simp [h]
omit hp in
theorem sbK_same {k i : Nat} (h : ¬ RelF l.length (prL l) k i) : sbK l (k + 1) i = sbK l k i := sumW_congr fun j _ => by
  rw [SubK.succ]
  simp [h]
theorem sb_step {k : Nat} (hk : k < l.length) (hpr : prL l k ≥ 0) : ∃ p : Nat, prL l k = (p : Int) ∧ p < l.length ∧ k < p ∧ IntKind.i64.wrap ((sbK l k p : Int) + (sbK l k k : Int)) = (sbK l (k + 1) p : Int) ∧
    (fT l.length (fun i => (sbK l k i : Int))).set p (sbK l (k + 1) p : Int) = fT l.length (fun i => (sbK l (k + 1) i : Int)) := by
  obtain ⟨p, hpp⟩ : ∃ p : Nat, prL l k = (p : Int) := ⟨(prL l k).toNat, by omega⟩
  have hrel : RelF l.length (prL l) k p := ⟨hk, hpp⟩
  have hlt := hrel.lt (prL_pf hp)
  have h1 := sbK_le hp k p
  have h2 := sbK_le hp k k
  refine ⟨p, hpp, hlt.2, hlt.1, ?_, ?_⟩
  · rw [sbK_step hp hrel, wrap64 (by omega) (by omega)]; omega
  · rw [fT_set]
    refine fT_congr fun v hv => ?_
    unfold upd
    by_cases e : v = p
    · subst e; simp
    · rw [if_neg e, sbK_same (fun h => e (by have := h.2; omega))]
theorem Subtrees_eq (hr : ∀ x ∈ l, InR x) : d_plan_Subtrees (l, ()) = some (fT l.length (fun i => (sbN l i : Int)), 0, ()) := by
  have hn := hp.1
  unfold d_plan_Subtrees
  simp only [Work_eq hp hr, Option.bind_some, bneI, Bool.not_true, decide_true, cond_false]
  have e0 : fT l.length (fun i => (wkN l i : Int)) = fT l.length (fun i => (sbK l 0 i : Int)) := fT_congr fun i hi => by rw [sbK_zero hi]
  have e1 : fT l.length (fun i => (sbN l i : Int)) = fT l.length (fun i => (sbK l l.length i : Int)) := fT_congr fun i hi => by rw [sbK_all hp]
  rw [e0, e1]
  refine bindR (fT l.length (fun i => (sbK l l.length i : Int)), ()) rfl (loop_for l.length (fun k => (fT l.length (fun i => (sbK l k i : Int)), ())) 0 rfl rfl (Nat.zero_le _) ?_ ?_)
  · intro k _ hk
    have hg : getI l (k : Int) = some l[k] := getN_some (List.getElem?_eq_getElem hk)
    have a5 := (hp.at hk).2.2.2.2
    simp (disch := omega) only [cond_dec, if_pos, hg, Option.bind_some, a5]
    by_cases hq : prL l k ≥ 0
    · obtain ⟨p, hpp, hpl, hkp, hw, hset⟩ := sb_step hp hk hq
      rw [if_pos hq, hpp]
      simp (disch := omega) only [fT_length, idxN_nat, Option.bind_some, atO_fT, hw, hset, wrap_inc]
    · rw [if_neg hq]
      simp (disch := omega) only [Option.bind_some, wrap_inc]
      refine congrArg (fun a => some (Sum.inl (((k + 1 : Nat) : Int), a, ()))) (fT_congr fun v hv => ?_)
      rw [sbK_same (fun h => by have := h.2; omega)]
  · simp (disch := omega) only [cond_dec, if_neg]
open Classical in
theorem refWork_eq (hr : ∀ x ∈ l, InR x) : d_sparseref32q_Work (l, ()) = some (fT l.length (fun i => (wkN l i : Int)), 0, ()) := by
  have hn := hp.1
  have hc : ∀ x ∈ l, x.2.2.1.length < 4611686018427387904 := fun x hx => by
    obtain ⟨i, hi, rfl⟩ := List.mem_iff_getElem.1 hx
    have := (hp.2 i hi).1; omega
  unfold d_sparseref32q_Work
  simp (disch := omega) only [refProper32_eq hr hc, decT (show Prp l from hp), Option.bind_some, Bool.not_true, cond_false, madeO_ok, fT_replicate]
  refine bindR (fT l.length (fun i => (wkN l i : Int)), ()) rfl (loop_for l.length (fun k => (fT l.length (fun i => if i < k then (wkN l i : Int) else 0), ())) 0 rfl (by
    refine congrArg (fun a => (a, ())) (fT_congr fun i hi => ?_)
    rw [if_neg (by omega)]) (Nat.zero_le _) ?_ ?_)
  · intro k _ hk
    have hg : getI l (k : Int) = some l[k] := getN_some (List.getElem?_eq_getElem hk)
    obtain ⟨a1, a2, a3, a4, a5⟩ := hp.at hk
    obtain ⟨⟨r1, r2⟩, r3, r4⟩ := hr _ (List.getElem_mem hk)
    have h1 := (hp.2 k hk).2.1
    have ew : IntKind.i64.wrap (l[k].2.1 - l[k].1) = ((rwN l k - kpN l k : Nat) : Int) := by rw [wrap64 (by omega) (by omega)]; omega
    simp (disch := omega) only [cond_dec, if_pos]
    refine bindR (fT l.length (fun i => if i < k + 1 then (wkN l i : Int) else 0), ()) (by simp (disch := omega) only [wrap_inc]) ?_
    refine loop_for (rwN l k - kpN l k) (fun c => (fT l.length (fun i => if i < k then (wkN l i : Int) else if i = k then (sumT (wkC (rwN l k)) c : Int) else 0), ())) 0 rfl (by
      refine congrArg (fun a => (a, ())) (fT_congr fun i hi => ?_)
      by_cases e : i < k
      · rw [if_pos e, if_pos e]
      · rw [if_neg e, if_neg e]; split <;> rfl) (Nat.zero_le _) ?_ ?_
    · intro c _ hcc
      obtain ⟨e1, e2⟩ := col_eq hp hk hcc
      have hs := sumT_le (f := wkC (rwN l k)) (b := 20300) (n := c) (fun c _ => wkC_le a1)
      have hs2 : c * 20300 ≤ 200 * 20300 := Nat.mul_le_mul_right _ (by omega)
      have ht := tri_le (n := rwN l k - 1 - c) (by omega)
      simp (disch := omega) only [hg, Option.bind_some, ew, if_pos, fT_length, idxN_nat, atO_fT, e1, e2, if_neg, Nat.lt_irrefl, if_false]
      simp only [if_true]
      rw [wrap_inc (by omega), wrap64 (x := (sumT (wkC (rwN l k)) c : Int) + 1) (by omega) (by omega), wrap64 (x := (sumT (wkC (rwN l k)) c : Int) + 1 + ((rwN l k - 1 - c : Nat) : Int)) (by omega) (by omega), wrap64 (by omega) (by omega), fT_set]
      refine congrArg (fun a => some (Sum.inl (((c + 1 : Nat) : Int), a, ()))) (fT_congr fun v hv => ?_)
      unfold upd
      by_cases e : v = k
      · subst e
        simp only [if_true, Nat.lt_irrefl, if_false, sumT, wkC]
        omega
      · simp only [if_neg e]
    · simp (disch := omega) only [hg, Option.bind_some, ew, if_neg]
      refine congrArg (fun a => some (Sum.inr (a, ()))) (fT_congr fun v hv => ?_)
      by_cases e : v = k
      · subst e; simp [wkN]
      · by_cases e2 : v < k
        · rw [if_pos e2, if_pos (by omega)]
        · rw [if_neg e2, if_neg e, if_neg (by omega)]
  · simp (disch := omega) only [cond_dec, if_neg]
    refine congrArg (fun a => some (Sum.inr (a, ()))) (fT_congr fun v hv => ?_)
    rw [if_pos hv]
theorem refSubtrees_eq (hr : ∀ x ∈ l, InR x) : d_sparseref32q_Subtrees (l, ()) = some (fT l.length (fun i => (sbN l i : Int)), 0, ()) := by
  have hn := hp.1
  unfold d_sparseref32q_Subtrees
  simp only [refWork_eq hp hr, Option.bind_some]
  have e0 : fT l.length (fun i => (wkN l i : Int)) = fT l.length (fun i => (sbK l 0 i : Int)) := fT_congr fun i hi => by rw [sbK_zero hi]
  have e1 : fT l.length (fun i => (sbN l i : Int)) = fT l.length (fun i => (sbK l l.length i : Int)) := fT_congr fun i hi => by rw [sbK_all hp]
  rw [e0, e1]
  refine bindR (fT l.length (fun i => (sbK l l.length i : Int)), ()) rfl (loop_for l.length (fun k => (fT l.length (fun i => (sbK l k i : Int)), ())) 0 rfl rfl (Nat.zero_le _) ?_ ?_)
  · intro k _ hk
    have hg : getI l (k : Int) = some l[k] := getN_some (List.getElem?_eq_getElem hk)
    have a5 := (hp.at hk).2.2.2.2
    simp (disch := omega) only [cond_dec, fT_length, if_pos, hg, Option.bind_some, a5]
    by_cases hq : prL l k ≥ 0
    · obtain ⟨p, hpp, hpl, hkp, hw, hset⟩ := sb_step hp hk hq
      rw [if_pos hq, hpp]
      simp (disch := omega) only [fT_length, idxN_nat, Option.bind_some, atO_fT, hw, hset, wrap_inc]
    · rw [if_neg hq]
      simp (disch := omega) only [Option.bind_some, wrap_inc]
      refine congrArg (fun a => some (Sum.inl (((k + 1 : Nat) : Int), a, ()))) (fT_congr fun v hv => ?_)
      rw [sbK_same (fun h => by have := h.2; omega)]
  · simp (disch := omega) only [cond_dec, fT_length, if_neg]
end
end Go.Fw
end

section
namespace Go.Fw
set_option linter.unusedSimpArgs false
set_option linter.unusedVariables false
open Go
def modV (a : Int) (n : Nat) : Nat := ((a % 18446744073709551616) % (n : Int)).toNat
theorem modV_lt (a : Int) {n : Nat} (h : 0 < n) : modV a n < n := by
  unfold modV
  have h1 := Int.emod_nonneg (a % 18446744073709551616) (show (n : Int) ≠ 0 by omega)
  have h2 := Int.emod_lt_of_pos (a % 18446744073709551616) (show (0 : Int) < (n : Int) by omega)
  omega
theorem modE {x y : Int} (h1 : 0 ≤ x) : x.tmod y = x % y := Int.tmod_eq_emod_of_nonneg h1
theorem Mod_eq (a : Int) {n : Nat} (h : 0 < n) (h2 : n ≤ 9223372036854775807) : d_sparsegen_Mod (a, (n : Int), ()) = some ((modV a n : Int), ()) := by
  unfold d_sparsegen_Mod
  have h1 := modV_lt a h
  have e : (a % 18446744073709551616) % (n : Int) = (modV a n : Int) := by
    unfold modV
    have := Int.emod_nonneg (a % 18446744073709551616) (show (n : Int) ≠ 0 by omega)
    omega
  have e2 : remO (IntKind.u64.wrap a) (IntKind.u64.wrap (n : Int)) = some (modV a n : Int) := by
    rw [wrapU64q_eq, wrapU64q_eq, Int.emod_eq_of_lt (a := (n : Int)) (by omega) (by omega)]
    unfold remO
    rw [if_pos (by omega), modE (by omega), e]
  simp only [e2, Option.bind_some]
  rw [wrap64 (by omega) (by omega)]
theorem xorI_rng (x y : Int) : 0 ≤ xorI IntKind.u64 x y ∧ xorI IntKind.u64 x y < 18446744073709551616 := by
  unfold xorI
  rw [wrapU64q_eq]
  omega
theorem shrO_some (x y : Int) (h : 0 ≤ y) : ∃ z, shrO IntKind.u64 x y = some z := by
  unfold shrO
  rw [if_pos h]
  exact ⟨_, rfl⟩
theorem mix_ok (x c a b : Int) (ha : 0 ≤ a) (hb : 0 ≤ b) : ∃ y : Int, (shrO IntKind.u64 x a).bind (fun y6 => (shrO IntKind.u64 (IntKind.u64.wrap ((xorI IntKind.u64 x y6) * c)) b).bind fun y7 =>
      some ((xorI IntKind.u64 (IntKind.u64.wrap ((xorI IntKind.u64 x y6) * c)) y7), ())) = some (y, ()) ∧ 0 ≤ y ∧ y < 18446744073709551616 := by
  obtain ⟨z, hz⟩ := shrO_some x a ha
  rw [hz]
  simp only [Option.bind_some]
  obtain ⟨z2, hz2⟩ := shrO_some (IntKind.u64.wrap ((xorI IntKind.u64 x z) * c)) b hb
  rw [hz2]
  exact ⟨_, rfl, xorI_rng _ _⟩
theorem bindEx {α : Type} {x : Option (Int × Unit)} {g : Int × Unit → Option α} {Q : α → Prop} (h : ∃ a, x = some (a, ())) (hg : ∀ a, ∃ y, g (a, ()) = some y ∧ Q y) : ∃ y, x.bind g = some y ∧ Q y := by
  obtain ⟨a, rfl⟩ := h
  exact hg a
theorem Word_ok (raw : List Int) (hl : raw.length ≤ 9223372036854775807) (k : Int) : ∃ y : Int × Unit, d_sparsegen_Word (raw, k, ()) = some y ∧ (0 ≤ y.1 ∧ y.1 < 18446744073709551616) := by
  have hmix : ∀ (x c a b : Int), 0 ≤ a → 0 ≤ b → ∃ y : Int × Unit, (shrO IntKind.u64 x a).bind (fun y6 => (shrO IntKind.u64 (IntKind.u64.wrap ((xorI IntKind.u64 x y6) * c)) b).bind fun y7 =>
      some ((xorI IntKind.u64 (IntKind.u64.wrap ((xorI IntKind.u64 x y6) * c)) y7), ())) = some y ∧ (0 ≤ y.1 ∧ y.1 < 18446744073709551616) := fun x c a b ha hb => by
    obtain ⟨y, h1, h2⟩ := mix_ok x c a b ha hb
    exact ⟨(y, ()), h1, h2⟩
  unfold d_sparsegen_Word
  refine bindEx ?_ (fun x => hmix x _ _ _ (by decide) (by decide))
  by_cases h : ((raw.length : Nat) : Int) > 0
  · have hm := modV_lt k (n := raw.length) (by omega)
    have e := Mod_eq k (n := raw.length) (by omega) hl
    generalize modV k raw.length = m at e hm
    simp only [decT h, cond_true]
    rw [e]
    simp only [Option.bind_some]
    rw [getN_some (List.getElem?_eq_getElem hm)]
    exact ⟨_, rfl⟩
  · simp only [decF h, cond_false]
    exact ⟨_, rfl⟩
noncomputable def wordV (raw : List Int) (k : Nat) : Nat := ((d_sparsegen_Word (raw, (k : Int), ())).getD (0, ())).1.toNat
theorem Word_eq (raw : List Int) (hl : raw.length ≤ 9223372036854775807) (k : Nat) : d_sparsegen_Word (raw, (k : Int), ()) = some ((wordV raw k : Int), ()) ∧ wordV raw k < 18446744073709551616 := by
  obtain ⟨⟨x, _⟩, h1, h2, h3⟩ := Word_ok raw hl k
  have e : (wordV raw k : Int) = x := by unfold wordV; rw [h1]; simp only [Option.getD_some]; omega
  rw [e]
  exact ⟨h1, by omega⟩
def froV (first k r : Nat) (p : Int) : FrT := ((first : Int), ((first : Int) + (k : Int)), fT r (fun i => (first : Int) + (i : Int)), p, ())
theorem front_eq {first k r : Nat} {p : Int} (h1 : first ≤ 100) (h2 : k ≤ 100) (h3 : r ≤ 100) : d_sparselaw32q_front ((first : Int), (k : Int), (r : Int), p, ()) = some (froV first k r p, ()) := by
  unfold d_sparselaw32q_front
  simp only [cond_dec]
  refine bindR ((0, 0, [], 0, ()), froV first k r p, ()) rfl (loop_for r (fun i => ((0, 0, [], 0, ()), ((first : Int), ((first : Int) + (k : Int)), fT i (fun i => (first : Int) + (i : Int)), p, ()), ())) 0 rfl ?_ (Nat.zero_le _) ?_ ?_)
  · rw [wrap64 (by omega) (by omega)]; rfl
  · intro i _ hi
    rw [wrap64 (x := (first : Int) + (i : Int)) (by omega) (by omega)]
    simp (disch := first | omega | (simp [fT_length]; omega)) only [if_pos, limO_ok, Option.bind_some, wrap_inc, fT_succ]
  · simp (disch := omega) only [if_neg]
    rfl
noncomputable def fkV (raw : List Int) (i : Nat) : Nat := 1 + wordV raw i / 256 % 4
noncomputable def frV32 (raw : List Int) (i : Nat) : Nat := fkV raw i + wordV raw i / 16777216 % 6
noncomputable def fpV (raw : List Int) (n i : Nat) : Int := if i + 1 < n ∧ 0 < wordV raw i % 5 then ((i + 1 + wordV raw i / 65536 % (min (n - i - 1) 4) : Nat) : Int) else -1
noncomputable def forV (raw : List Int) (n i : Nat) : FrT := froV i (fkV raw i) (frV32 raw i) (fpV raw n i)
theorem shr_eq {x k : Nat} : shrO IntKind.u64 (x : Int) (k : Int) = some ((x / 2 ^ (min k 64) : Nat) : Int) := by
  unfold shrO
  rw [if_pos (by omega)]
  show some ((x : Int).fdiv (2 ^ min (k : Int).toNat 64)) = _
  rw [Int.toNat_natCast, Int.fdiv_eq_ediv_of_nonneg _ (by exact Int.le_of_lt (Int.pow_pos (by decide)))]
  norm_cast
theorem rem_eq {x y : Nat} (h : 0 < y) : remO (x : Int) (y : Int) = some ((x % y : Nat) : Int) := by
  unfold remO
  rw [if_pos (by omega), modE (by omega)]
  norm_cast
theorem Forest32_eq (raw : List Int) (hl : raw.length ≤ 9223372036854775807) (n : Int) : d_sparselaw32q_Forest (raw, n, ()) = some (fT (modV n 15) (forV raw (modV n 15)), ()) := by
  unfold d_sparselaw32q_Forest
  have hm := modV_lt n (n := 15) (by omega)
  simp only [show (15 : Int) = ((15 : Nat) : Int) from rfl, Mod_eq n (n := 15) (by omega) (by omega), Option.bind_some, cond_dec]
  generalize modV n 15 = m at hm ⊢
  refine bindR (fT m (forV raw m), ()) rfl (loop_for m (fun i => (fT i (forV raw m), ())) 0 rfl rfl (Nat.zero_le _) ?_ ?_)
  · intro i _ hi
    obtain ⟨hw, hwb⟩ := Word_eq raw hl i
    have e8 : shrO IntKind.u64 (wordV raw i : Int) 8 = some ((wordV raw i / 256 : Nat) : Int) := shr_eq (k := 8)
    have e16 : shrO IntKind.u64 (wordV raw i : Int) 16 = some ((wordV raw i / 65536 : Nat) : Int) := shr_eq (k := 16)
    have e24 : shrO IntKind.u64 (wordV raw i : Int) 24 = some ((wordV raw i / 16777216 : Nat) : Int) := shr_eq (k := 24)
    have r4 : remO ((wordV raw i / 256 : Nat) : Int) 4 = some ((wordV raw i / 256 % 4 : Nat) : Int) := rem_eq (y := 4) (by omega)
    have r6 : remO ((wordV raw i / 16777216 : Nat) : Int) 6 = some ((wordV raw i / 16777216 % 6 : Nat) : Int) := rem_eq (y := 6) (by omega)
    have r5 : remO ((wordV raw i : Nat) : Int) 5 = some ((wordV raw i % 5 : Nat) : Int) := rem_eq (y := 5) (by omega)
    have b4 : wordV raw i / 256 % 4 < 4 := Nat.mod_lt _ (by omega)
    have b6 : wordV raw i / 16777216 % 6 < 6 := Nat.mod_lt _ (by omega)
    have k1 : IntKind.i64.wrap (1 + IntKind.i64.wrap ((wordV raw i / 256 % 4 : Nat) : Int)) = ((fkV raw i : Nat) : Int) := by
      rw [wrapN (by omega), wrap64 (by omega) (by omega)]; unfold fkV; omega
    have k2 : IntKind.i64.wrap (((fkV raw i : Nat) : Int) + IntKind.i64.wrap ((wordV raw i / 16777216 % 6 : Nat) : Int)) = ((frV32 raw i : Nat) : Int) := by
      have : fkV raw i ≤ 4 := by unfold fkV; omega
      rw [wrapN (by omega), wrap64 (by omega) (by omega)]; unfold frV32; omega
    have hk4 : fkV raw i ≤ 4 := by unfold fkV; omega
    have hr9 : frV32 raw i ≤ 9 := by unfold frV32; omega
    simp (disch := omega) only [if_pos, hw, e8, r4, Option.bind_some, wrap_inc, e24, r6, k1, k2]
    have hpar : (Option.bind (Option.bind (bif decide (((i + 1 : Nat) : Int) < (m : Int)) == true then (remO (wordV raw i : Int) 5).bind fun y10 => some (decide (y10 > 0), fT i (forV raw m), ()) else some (false, fT i (forV raw m), ())) fun (x : Bool × (List FrT) × Unit) => match x with
          | (s_11, l_12, _) => bif s_11 then (shrO IntKind.u64 (wordV raw i : Int) 16).bind fun y13 => (remO y13 (IntKind.u64.wrap (if (4 : Int) < (IntKind.i64.wrap ((IntKind.i64.wrap ((m : Int) - (i : Int))) - 1)) then 4 else (IntKind.i64.wrap ((IntKind.i64.wrap ((m : Int) - (i : Int))) - 1))))).bind fun y14 => some (IntKind.i64.wrap (((i + 1 : Nat) : Int) + IntKind.i64.wrap y14), l_12, ()) else some (-1, l_12, ())) (some : (Int × (List FrT) × Unit) → _)) = some (fpV raw m i, fT i (forV raw m), ()) := by
      by_cases h1 : i + 1 < m
      · rw [decT (show ((i + 1 : Nat) : Int) < (m : Int) by omega)]
        simp only [beq_self_eq_true, cond_true, r5, Option.bind_some, cond_dec]
        by_cases h2 : 0 < wordV raw i % 5
        · rw [if_pos (show ((wordV raw i % 5 : Nat) : Int) > 0 by omega)]
          have w1 : IntKind.i64.wrap ((m : Int) - (i : Int)) = ((m - i : Nat) : Int) := by rw [wrap64 (by omega) (by omega)]; omega
          have w2 : IntKind.i64.wrap (((m - i : Nat) : Int) - 1) = ((m - i - 1 : Nat) : Int) := by rw [wrap64 (by omega) (by omega)]; omega
          have w3 : (if (4 : Int) < ((m - i - 1 : Nat) : Int) then (4 : Int) else ((m - i - 1 : Nat) : Int)) = ((min (m - i - 1) 4 : Nat) : Int) := by
            by_cases h4 : 4 < m - i - 1
            · rw [if_pos (by omega)]; omega
            · rw [if_neg (by omega)]; omega
          have hmp : 0 < min (m - i - 1) 4 := by omega
          have hml := Nat.mod_lt (wordV raw i / 65536) hmp
          simp only [w1, w2, w3, e16, Option.bind_some]
          rw [wrapUq_eq _ (by omega) (by omega), rem_eq hmp]
          simp only [Option.bind_some]
          rw [wrapN (by omega), wrap64 (by omega) (by omega)]
          unfold fpV
          rw [if_pos ⟨h1, h2⟩]
          refine congrArg (fun a => some (a, fT i (forV raw m), ())) ?_
          omega
        · rw [if_neg (show ¬ ((wordV raw i % 5 : Nat) : Int) > 0 by omega)]
          have e : fpV raw m i = -1 := by unfold fpV; exact if_neg (fun h => h2 h.2)
          rw [e]; rfl
      · rw [decF (show ¬ ((i + 1 : Nat) : Int) < (m : Int) by omega)]
        have e : fpV raw m i = -1 := by unfold fpV; exact if_neg (fun h => h1 h.1)
        rw [e]; rfl
    rw [Option.bind_fun_some] at hpar
    refine bindR (fT (i + 1) (forV raw m), ()) (by simp only [Option.bind_some]) ?_
    refine bindR (fpV raw m i, fT i (forV raw m), ()) ?_ hpar
    simp only [front_eq (first := i) (k := fkV raw i) (r := frV32 raw i) (p := fpV raw m i) (by omega) (by omega) (by omega), Option.bind_some]
    simp (disch := first | omega | (simp [fT_length]; omega)) only [limO_ok, Option.bind_some, fT_succ]
    rfl
  · simp (disch := omega) only [if_neg]
theorem fo_get {raw : List Int} {m i : Nat} (hi : i < (fT m (forV raw m)).length) : (fT m (forV raw m))[i] = forV raw m i := by
  have h : i < m := by simpa [fT_length] using hi
  have := fT_get (f := forV raw m) h
  rw [List.getElem?_eq_getElem hi] at this
  exact Option.some.inj this
theorem fpV_rng (raw : List Int) {m i : Nat} (hi : i < m) : fpV raw m i = -1 ∨ ((i : Int) < fpV raw m i ∧ fpV raw m i < (m : Int)) := by
  unfold fpV
  split
  · rename_i h
    have := Nat.mod_lt (wordV raw i / 65536) (show 0 < min (m - i - 1) 4 by omega)
    right; omega
  · exact .inl rfl
theorem fo_prp (raw : List Int) {m : Nat} (hm : m < 15) : Prp (fT m (forV raw m)) := by
  refine ⟨by rw [fT_length]; omega, fun i hi => ?_⟩
  have h : i < m := by simpa [fT_length] using hi
  rw [fo_get hi, fT_length]
  have hk : 1 ≤ fkV raw i ∧ fkV raw i ≤ frV32 raw i ∧ frV32 raw i ≤ 9 := by
    have := Nat.mod_lt (wordV raw i / 256) (show 0 < 4 by omega)
    have := Nat.mod_lt (wordV raw i / 16777216) (show 0 < 6 by omega)
    unfold frV32 fkV; omega
  have hlen : (fT (frV32 raw i) (fun j => (i : Int) + (j : Int))).length = frV32 raw i := fT_length _ _
  refine ⟨?_, ?_, ?_, fpV_rng raw h⟩
  · show (fT (frV32 raw i) (fun j => (i : Int) + (j : Int))).length ≤ 200; omega
  · show (i : Int) < (i : Int) + (fkV raw i : Int); omega
  · show (i : Int) + (fkV raw i : Int) - (i : Int) ≤ (((fT (frV32 raw i) (fun j => (i : Int) + (j : Int))).length : Nat) : Int); omega
theorem fo_inr (raw : List Int) {m : Nat} (hm : m < 15) : ∀ x ∈ fT m (forV raw m), InR x := by
  intro x hx
  obtain ⟨i, hi, rfl⟩ := List.mem_iff_getElem.1 hx
  have h : i < m := by simpa [fT_length] using hi
  rw [fo_get hi]
  have hk : fkV raw i ≤ 4 := by
    have := Nat.mod_lt (wordV raw i / 256) (show 0 < 4 by omega)
    unfold fkV; omega
  exact ⟨⟨show (-9223372036854775808 : Int) ≤ (i : Int) by omega, show (i : Int) ≤ 9223372036854775807 by omega⟩, ⟨show (-9223372036854775808 : Int) ≤ (i : Int) + (fkV raw i : Int) by omega, show (i : Int) + (fkV raw i : Int) ≤ 9223372036854775807 by omega⟩⟩
end Go.Fw
end

section
namespace Go.Fw
set_option linter.unusedSimpArgs false
set_option linter.unusedVariables false
open Go
def kdN (l : List FrT) (i : Nat) : List Nat := (List.range l.length).filter fun c => decide (prL l c = (i : Int))
def rtN (l : List FrT) : List Nat := (List.range l.length).filter fun c => decide (prL l c = -1)
theorem kdN_nat (l : List FrT) (i : Nat) : kidsV (prL l) l.length i = natL (kdN l i) := rfl
theorem rtN_nat (l : List FrT) : rootsV (prL l) l.length = natL (rtN l) := rfl
theorem mem_kdN {l : List FrT} {i c : Nat} : c ∈ kdN l i ↔ c < l.length ∧ prL l c = (i : Int) := by simp [kdN]
theorem mem_rtN {l : List FrT} {c : Nat} : c ∈ rtN l ↔ c < l.length ∧ prL l c = -1 := by simp [rtN]
theorem kdN_nodup (l : List FrT) (i : Nat) : (kdN l i).Nodup := List.Pairwise.filter _ List.nodup_range
theorem rtN_nodup (l : List FrT) : (rtN l).Nodup := List.Pairwise.filter _ List.nodup_range
theorem kdN_len (l : List FrT) (i : Nat) : (kdN l i).length ≤ l.length := by
  unfold kdN
  exact Nat.le_trans (List.length_filter_le _ _) (by simp)
def bfN (l : List FrT) (i j : Nat) : Prop := sbN l j < sbN l i ∨ (sbN l i = sbN l j ∧ i < j)
theorem bfN.trans {l : List FrT} {a b c : Nat} (h : bfN l a b) (h2 : bfN l b c) : bfN l a c := by unfold bfN at *; omega
theorem bfN.asymm {l : List FrT} {a b : Nat} (h : bfN l a b) : ¬ bfN l b a := by unfold bfN at *; omega
theorem bfN.total {l : List FrT} {a b : Nat} (h : ¬ bfN l a b) : a = b ∨ bfN l b a := by unfold bfN at *; omega
def BestQ (l : List FrT) (P : Nat → Prop) (b : Nat) : Prop := P b ∧ ∀ j, P j → j ≠ b → bfN l b j
section
variable {l : List FrT} {P Q : Nat → Prop} {b b' i : Nat}
theorem BestQ.congr (h : BestQ l P b) (e : ∀ j, Q j ↔ P j) : BestQ l Q b := ⟨(e b).2 h.1, fun j hj hn => h.2 j ((e j).1 hj) hn⟩
theorem BestQ.uniq (h : BestQ l P b) (h' : BestQ l P b') : b = b' := by
  by_cases e : b' = b
  · exact e.symm
  · exact absurd (h'.2 b h.1 (fun x => e x.symm)) (h.2 b' h'.1 e).asymm
theorem BestQ.first (h : ∀ j, ¬ P j) (e : ∀ j, Q j ↔ P j ∨ j = i) : BestQ l Q i := ⟨(e i).2 (.inr rfl), fun j hj hn => by
  rcases (e j).1 hj with h1 | h1
  · exact absurd h1 (h j)
  · exact absurd h1 hn⟩
theorem BestQ.better (h : BestQ l P b) (hb : bfN l i b) (e : ∀ j, Q j ↔ P j ∨ j = i) : BestQ l Q i := ⟨(e i).2 (.inr rfl), fun j hj hn => by
  rcases (e j).1 hj with h1 | h1
  · by_cases ej : j = b
    · subst ej; exact hb
    · exact hb.trans (h.2 j h1 ej)
  · exact absurd h1 hn⟩
theorem BestQ.keep (h : BestQ l P b) (hb : ¬ bfN l i b) (e : ∀ j, Q j ↔ P j ∨ j = i) : BestQ l Q b := ⟨(e b).2 (.inl h.1), fun j hj hn => by
  rcases (e j).1 hj with h1 | rfl
  · exact h.2 j h1 hn
  · rcases bfN.total hb with h2 | h2
    · exact absurd h2 hn
    · exact h2⟩
end
def WkD (l : List FrT) (S : List Nat) (j : Nat) : Prop := j ∈ S ∧ kdN l j ≠ []
open Classical in
noncomputable def nxD (l : List FrT) (m : Nat) (st : List Nat × List Nat) : Option (List Nat × List Nat) :=
  if h : st.1.length < m ∧ ∃ b, BestQ l (WkD l st.1) b then some (st.1.erase h.2.choose ++ kdN l h.2.choose, st.2 ++ [h.2.choose]) else none
theorem nxD_some {l : List FrT} {m b : Nat} {S T : List Nat} (hm : S.length < m) (hb : BestQ l (WkD l S) b) : nxD l m (S, T) = some (S.erase b ++ kdN l b, T ++ [b]) := by
  unfold nxD
  have h : S.length < m ∧ ∃ b, BestQ l (WkD l S) b := ⟨hm, b, hb⟩
  rw [dif_pos h]
  rw [h.2.choose_spec.uniq hb]
theorem nxD_cases {l : List FrT} {m : Nat} {S T : List Nat} {st : List Nat × List Nat} (h : nxD l m (S, T) = some st) : S.length < m ∧ ∃ b, BestQ l (WkD l S) b ∧ st = (S.erase b ++ kdN l b, T ++ [b]) := by
  unfold nxD at h
  split at h
  · rename_i hx
    refine ⟨hx.1, hx.2.choose, hx.2.choose_spec, (Option.some.inj h).symm⟩
  · cases h
noncomputable def itD (l : List FrT) (m : Nat) : Nat → List Nat × List Nat
  | 0 => (rtN l, [])
  | k + 1 => (nxD l m (itD l m k)).getD (itD l m k)
structure InvD (l : List FrT) (S T : List Nat) : Prop where
  sn : S.Nodup
  tn : T.Nodup
  slt : ∀ x ∈ S, x < l.length
  tlt : ∀ x ∈ T, x < l.length ∧ kdN l x ≠ []
  dj : ∀ x ∈ S, x ∉ T
  cl : ∀ j, j < l.length → ((j ∈ S ∨ j ∈ T) ↔ (prL l j = -1 ∨ ∃ q ∈ T, prL l j = (q : Int)))
theorem InvD.start (l : List FrT) : InvD l (rtN l) [] where
  sn := rtN_nodup l
  tn := List.nodup_nil
  slt := fun x hx => (mem_rtN.1 hx).1
  tlt := fun x hx => absurd hx (by simp)
  dj := fun x _ => by simp
  cl := fun j hj => by simp [mem_rtN, hj]
theorem InvD.step {l : List FrT} {S T : List Nat} {b : Nat} (h : InvD l S T) (hb : WkD l S b) (hp : Prp l) : InvD l (S.erase b ++ kdN l b) (T ++ [b]) := by
  have hbT := h.dj b hb.1
  have hk : ∀ c, c ∈ kdN l b → c ∉ S ∧ c ∉ T ∧ c ≠ b := fun c hc => by
    obtain ⟨h1, h2⟩ := mem_kdN.1 hc
    have h3 := prL_pf hp c h1
    have : ¬ (c ∈ S ∨ c ∈ T) := fun hx => by
      rcases (h.cl c h1).1 hx with h4 | ⟨q, hq, h4⟩
      · omega
      · obtain rfl : q = b := by omega
        exact hbT hq
    exact ⟨fun x => this (.inl x), fun x => this (.inr x), by omega⟩
  refine ⟨?_, ?_, ?_, ?_, ?_, ?_⟩
  · rw [List.nodup_append]
    refine ⟨h.sn.erase b, kdN_nodup l b, fun x hx y hy e => ?_⟩
    subst e
    exact (hk x hy).1 (List.mem_of_mem_erase hx)
  · rw [List.nodup_append]
    refine ⟨h.tn, by simp, fun x hx y hy e => ?_⟩
    rw [List.mem_singleton] at hy
    subst e hy
    exact hbT hx
  · intro x hx
    rcases List.mem_append.1 hx with h1 | h1
    · exact h.slt x (List.mem_of_mem_erase h1)
    · exact (mem_kdN.1 h1).1
  · intro x hx
    rcases List.mem_append.1 hx with h1 | h1
    · exact h.tlt x h1
    · rw [List.mem_singleton] at h1
      subst h1
      exact ⟨h.slt x hb.1, hb.2⟩
  · intro x hx hx2
    rcases List.mem_append.1 hx with h1 | h1
    · obtain ⟨h3, h4⟩ := h.sn.mem_erase_iff.1 h1
      rcases List.mem_append.1 hx2 with h2 | h2
      · exact h.dj x h4 h2
      · exact h3 (List.mem_singleton.1 h2)
    · obtain ⟨h3, h4, h5⟩ := hk x h1
      rcases List.mem_append.1 hx2 with h2 | h2
      · exact h4 h2
      · exact h5 (List.mem_singleton.1 h2)
  · intro j hj
    have hc := h.cl j hj
    simp only [List.mem_append, List.mem_singleton, h.sn.mem_erase_iff, mem_kdN]
    constructor
    · rintro ((⟨_, h1⟩ | ⟨_, h1⟩) | (h1 | rfl))
      · rcases hc.1 (.inl h1) with h2 | ⟨q, hq, h2⟩
        · exact .inl h2
        · exact .inr ⟨q, .inl hq, h2⟩
      · exact .inr ⟨b, .inr rfl, h1⟩
      · rcases hc.1 (.inr h1) with h2 | ⟨q, hq, h2⟩
        · exact .inl h2
        · exact .inr ⟨q, .inl hq, h2⟩
      · rcases hc.1 (.inl hb.1) with h2 | ⟨q, hq, h2⟩
        · exact .inl h2
        · exact .inr ⟨q, .inl hq, h2⟩
    · have key : (j ∈ S ∨ j ∈ T) → (((j ≠ b ∧ j ∈ S) ∨ (j < l.length ∧ prL l j = (b : Int))) ∨ (j ∈ T ∨ j = b)) := fun h1 => by
        by_cases e : j = b
        · exact .inr (.inr e)
        · rcases h1 with h1 | h1
          · exact .inl (.inl ⟨e, h1⟩)
          · exact .inr (.inl h1)
      rintro (h1 | ⟨q, hq | rfl, h1⟩)
      · exact key (hc.2 (.inl h1))
      · exact key (hc.2 (.inr ⟨q, hq, h1⟩))
      · exact .inl (.inr ⟨hj, h1⟩)
section
variable {l : List FrT} (hp : Prp l) (m : Nat)
include hp
theorem itD_inv : ∀ k, InvD l (itD l m k).1 (itD l m k).2
  | 0 => InvD.start l
  | k + 1 => by
      have ih := itD_inv k
      unfold itD
      cases h : nxD l m (itD l m k) with
      | none => exact ih
      | some st =>
        obtain ⟨_, b, hb, rfl⟩ := nxD_cases (S := (itD l m k).1) (T := (itD l m k).2) h
        exact ih.step hb.1 hp
theorem itD_end : ∃ K, K ≤ l.length ∧ (∀ k, k < K → nxD l m (itD l m k) ≠ none) ∧ nxD l m (itD l m K) = none := by
  have key : ∀ K, (∀ k, k < K → nxD l m (itD l m k) ≠ none) → (itD l m K).2.length = K := by
    intro K
    induction K with
    | zero => intro _; rfl
    | succ K ih =>
      intro h
      have h1 := ih fun k hk => h k (by omega)
      have h2 := h K (by omega)
      unfold itD
      cases e : nxD l m (itD l m K) with
      | none => exact absurd e h2
      | some st =>
        obtain ⟨_, b, hb, rfl⟩ := nxD_cases (S := (itD l m K).1) (T := (itD l m K).2) e
        simp [h1]
  have fin : ∀ K, (∀ k, k < K → nxD l m (itD l m k) ≠ none) → K ≤ l.length := fun K h => by
    have hi := itD_inv hp m K
    have := nodup_le hi.tn (fun x hx => (hi.tlt x hx).1)
    rw [key K h] at this
    exact this
  by_cases h : ∃ K, nxD l m (itD l m K) = none
  · obtain ⟨K, hK⟩ := h
    have : ∀ K, nxD l m (itD l m K) = none → ∃ K, (∀ k, k < K → nxD l m (itD l m k) ≠ none) ∧ nxD l m (itD l m K) = none := by
      intro K
      induction K using Nat.strongRecOn with
      | ind K ih =>
        intro hK
        by_cases h : ∃ k, k < K ∧ nxD l m (itD l m k) = none
        · obtain ⟨k, hk, h2⟩ := h
          exact ih k hk h2
        · exact ⟨K, fun k hk e => h ⟨k, hk, e⟩, hK⟩
    obtain ⟨K, h1, h2⟩ := this K hK
    exact ⟨K, fin K h1, h1, h2⟩
  · exact absurd (fin (l.length + 1) fun k _ e => h ⟨k, e⟩) (by omega)
theorem itD_step {k : Nat} (h : nxD l m (itD l m k) ≠ none) : (itD l m k).1.length < m ∧ ∃ b, BestQ l (WkD l (itD l m k).1) b ∧ itD l m (k + 1) = ((itD l m k).1.erase b ++ kdN l b, (itD l m k).2 ++ [b]) := by
  have e : itD l m (k + 1) = (nxD l m (itD l m k)).getD (itD l m k) := rfl
  cases h2 : nxD l m (itD l m k) with
  | none => exact absurd h2 h
  | some st =>
    obtain ⟨h1, b, hb, rfl⟩ := nxD_cases (S := (itD l m k).1) (T := (itD l m k).2) h2
    rw [h2] at e
    exact ⟨h1, b, hb, e⟩
end
end Go.Fw
end

section
namespace Go.Fw
set_option linter.unusedSimpArgs false
set_option linter.unusedVariables false
open Go
abbrev DvD : Type := List FrT × (List Int × (List (List Int) × (List Int × (List Int × Unit))))
noncomputable def dvV (l : List FrT) (S T : List Nat) : DvD := (l, (fT l.length (fun i => (sbN l i : Int)), (fT l.length (kidsV (prL l) l.length), (natL S, (natL T, ())))))
section
variable {l : List FrT} (hp : Prp l)
include hp
theorem before_eq {S T : List Nat} {i j : Nat} (hi : i < l.length) (hj : j < l.length) : d_plan_division_before (some (dvV l S T), (i : Int), (j : Int), ()) = some (open Classical in decide (bfN l i j), ()) := by
  classical
  unfold d_plan_division_before
  have gi : getI (dvV l S T).2.1 (i : Int) = some (sbN l i : Int) := getN_some (fT_get hi)
  have gj : getI (dvV l S T).2.1 (j : Int) = some (sbN l j : Int) := getN_some (fT_get hj)
  simp only [Option.bind_some, gi, gj, cond_dec_beqF]
  by_cases h1 : (sbN l i : Int) > (sbN l j : Int)
  · rw [if_pos h1, decT (show bfN l i j from .inl (by omega))]
  · rw [if_neg h1]
    by_cases h2 : (sbN l i : Int) = (sbN l j : Int)
    · rw [h2]
      simp only [beq_self_eq_true, cond_true]
      refine congrArg (fun a => some (a, ())) (decide_eq_decide.2 ?_)
      unfold bfN; omega
    · have : ((sbN l i : Int) == (sbN l j : Int)) = false := by simpa using h2
      rw [this, decF (show ¬ bfN l i j from fun h => by unfold bfN at h; omega)]
      rfl
def GrtV (l : List FrT) (S : List Nat) (r : Int) : Prop := (r = -1 ∧ ∀ j, ¬ WkD l S j) ∨ ∃ k : Nat, r = (k : Int) ∧ ∃ h : k < S.length, BestQ l (WkD l S) S[k]
theorem greatest_ok {S T : List Nat} (hS : ∀ x ∈ S, x < l.length) (hlen : S.length ≤ 4000) : Ok (d_plan_division_greatest (some (dvV l S T), ())) (fun r => GrtV l S r.1) := by
  classical
  unfold d_plan_division_greatest
  simp only [Option.bind_some]
  refine Ok.bind_of (P := fun r => GrtV l S r.1) ?_ (by rintro ⟨r, _⟩ h; exact Ok.some_iff.2 h)
  have hW : ∀ i, (hi : i < S.length) → ∀ j, WkD l (S.take (i + 1)) j ↔ WkD l (S.take i) j ∨ (kdN l S[i] ≠ [] ∧ j = S[i]) := fun i hi j => by
    unfold WkD
    rw [← take_snoc hi, List.mem_append, List.mem_singleton]
    constructor
    · rintro ⟨h | h, h2⟩
      · exact .inl ⟨h, h2⟩
      · exact .inr ⟨by rw [← h]; exact h2, h⟩
    · rintro (⟨h, h2⟩ | ⟨h, rfl⟩)
      · exact ⟨.inl h, h2⟩
      · exact ⟨.inr rfl, h⟩
  refine Ok.seq S.length (fun i s => ∃ r : Int, s = (r, (i : Int), ()) ∧ ((r = -1 ∧ ∀ j, ¬ WkD l (S.take i) j) ∨ ∃ k : Nat, r = (k : Int) ∧ ∃ h : k < S.length, BestQ l (WkD l (S.take i)) S[k])) 0 ⟨-1, rfl, .inl ⟨rfl, fun j h => by simp [WkD] at h⟩⟩ (Nat.zero_le _) ?_ ?_
  · rintro i _ _ hi ⟨r, rfl, hI⟩
    have gS : getI (dvV l S T).2.2.2.1 (i : Int) = some ((S[i] : Nat) : Int) := nat_get hi
    have hSi := hS _ (List.getElem_mem hi)
    have gk : getI (dvV l S T).2.2.1 ((S[i] : Nat) : Int) = some (natL (kdN l S[i])) := getN_some (fT_get hSi)
    have hl : (dvV l S T).2.2.2.1.length = S.length := natL_length S
    simp only [hl, decT (show (i : Int) < ((S.length : Nat) : Int) by omega), cond_true, gS, Option.bind_some, gk, natL_length]
    by_cases hk : kdN l S[i] = []
    · simp only [hk, List.length_nil, Int.natCast_zero, beq_self_eq_true, cond_true, Option.bind_some, wrap_inc (show i + 1 < 9223372036854775808 by omega)]
      have e : ∀ j, WkD l (S.take (i + 1)) j ↔ WkD l (S.take i) j := fun j => (hW i hi j).trans ⟨fun h => h.elim id (fun h => absurd hk h.1), .inl⟩
      refine Ok.some_iff.2 ⟨r, rfl, ?_⟩
      rcases hI with ⟨h1, h2⟩ | ⟨k, h1, h2, h3⟩
      · exact .inl ⟨h1, fun j h => h2 j ((e j).1 h)⟩
      · exact .inr ⟨k, h1, h2, h3.congr e⟩
    · have hz : ((((kdN l S[i]).length : Nat) : Int) == 0) = false := by
        have := List.length_pos_iff.2 hk
        simp; omega
      have e : ∀ j, WkD l (S.take (i + 1)) j ↔ WkD l (S.take i) j ∨ j = S[i] := fun j => (hW i hi j).trans ⟨fun h => h.elim .inl (fun h => .inr h.2), fun h => h.elim .inl (fun h => .inr ⟨hk, h⟩)⟩
      simp only [hz, cond_false, cond_dec_beqF]
      rcases hI with ⟨rfl, h2⟩ | ⟨k, rfl, h2, h3⟩
      · simp only [if_pos (show (-1 : Int) < 0 by omega), Option.bind_some, cond_true, wrap_inc (show i + 1 < 9223372036854775808 by omega)]
        exact Ok.some_iff.2 ⟨(i : Int), rfl, .inr ⟨i, rfl, hi, BestQ.first h2 e⟩⟩
      · have gk2 : getI (dvV l S T).2.2.2.1 (k : Int) = some ((S[k] : Nat) : Int) := nat_get h2
        simp only [if_neg (show ¬ ((k : Nat) : Int) < 0 by omega), gk2, Option.bind_some, before_eq hp hSi (hS _ (List.getElem_mem h2)), cond_dec]
        by_cases hb : bfN l S[i] S[k]
        · simp only [if_pos hb, Option.bind_some, wrap_inc (show i + 1 < 9223372036854775808 by omega)]
          exact Ok.some_iff.2 ⟨(i : Int), rfl, .inr ⟨i, rfl, hi, BestQ.better h3 hb e⟩⟩
        · simp only [if_neg hb, Option.bind_some, wrap_inc (show i + 1 < 9223372036854775808 by omega)]
          exact Ok.some_iff.2 ⟨(k : Int), rfl, .inr ⟨k, rfl, h2, BestQ.keep h3 hb e⟩⟩
  · rintro _ ⟨r, rfl, hI⟩
    have hl : (dvV l S T).2.2.2.1.length = S.length := natL_length S
    simp only [hl, decF (show ¬ ((S.length : Nat) : Int) < ((S.length : Nat) : Int) by omega), cond_false]
    rw [List.take_length] at hI
    exact Ok.some_iff.2 hI
end
end Go.Fw
end

section
namespace Go.Fw
set_option linter.unusedSimpArgs false
set_option linter.unusedVariables false
open Go
theorem insB_sorted {lt : Int → Int → Bool} (tot : ∀ x y, x ≠ y → lt x y = false → lt y x = true) (tr : ∀ x y z, lt x y = true → lt y z = true → lt x z = true) (x : Int) :
    ∀ l : List Int, l.Pairwise (fun a b => lt a b = true) → x ∉ l → (insB lt x l).Pairwise (fun a b => lt a b = true)
  | [], _, _ => by simp [insB]
  | y :: l, h, hx => by
      obtain ⟨h1, h2⟩ := List.pairwise_cons.1 h
      unfold insB
      cases e : lt x y with
      | true =>
        refine List.pairwise_cons.2 ⟨fun z hz => ?_, h⟩
        rcases List.mem_cons.1 hz with rfl | hz
        · exact e
        · exact tr _ _ _ e (h1 z hz)
      | false =>
        refine List.pairwise_cons.2 ⟨fun z hz => ?_, insB_sorted tot tr x l h2 (fun h => hx (List.mem_cons_of_mem _ h))⟩
        rcases List.mem_cons.1 ((insB_perm lt x l).mem_iff.1 hz) with rfl | hz
        · exact tot _ _ (fun e => hx (e ▸ List.mem_cons_self ..)) e
        · exact h1 z hz
theorem foldB_perm (lt : Int → Int → Bool) : ∀ xs : List Int, (xs.foldr (insB lt) []).Perm xs
  | [] => .refl _
  | x :: xs => (insB_perm _ x _).trans ((foldB_perm lt xs).cons x)
theorem foldB_sorted {lt : Int → Int → Bool} (tot : ∀ x y, x ≠ y → lt x y = false → lt y x = true) (tr : ∀ x y z, lt x y = true → lt y z = true → lt x z = true) :
    ∀ xs : List Int, xs.Nodup → (xs.foldr (insB lt) []).Pairwise (fun a b => lt a b = true)
  | [], _ => .nil
  | x :: xs, h => by
      obtain ⟨h1, h2⟩ := List.nodup_cons.1 h
      exact insB_sorted tot tr x _ (foldB_sorted tot tr xs h2) (fun h => h1 ((foldB_perm lt xs).mem_iff.1 h))
theorem befI_iff' (subs : List Int) (x y : Int) : befI subs x y = true ↔ subs[y.toNat]?.getD 0 < subs[x.toNat]?.getD 0 ∨ (subs[x.toNat]?.getD 0 = subs[y.toNat]?.getD 0 ∧ x < y) := by
  unfold befI
  simp
theorem natL_of {xs : List Int} (h : ∀ x ∈ xs, 0 ≤ x) : natL (xs.map Int.toNat) = xs := by
  unfold natL
  rw [List.map_map]
  conv => rhs; rw [← List.map_id xs]
  exact List.map_congr_left fun x hx => by have := h x hx; simp; omega
noncomputable def srD (l : List FrT) (S : List Nat) : List Nat := (srtL (fT l.length (fun i => (sbN l i : Int))) (natL S)).map Int.toNat
def asD (T : List Nat) : List Nat := (sortI (natL T)).map Int.toNat
theorem natL_nonneg {S : List Nat} : ∀ x ∈ natL S, (0 : Int) ≤ x := fun x hx => by
  unfold natL at hx
  obtain ⟨y, _, rfl⟩ := List.mem_map.1 hx
  omega
theorem srD_nat (l : List FrT) (S : List Nat) : srtL (fT l.length (fun i => (sbN l i : Int))) (natL S) = natL (srD l S) := (natL_of fun x hx => natL_nonneg x ((srtL_perm _ _).mem_iff.1 hx)).symm
theorem asD_nat (T : List Nat) : sortI (natL T) = natL (asD T) := (natL_of fun x hx => natL_nonneg x ((foldB_perm _ _).mem_iff.1 hx)).symm
theorem natL_toNat (S : List Nat) : (natL S).map Int.toNat = S := by simp [natL, Function.comp_def]
theorem srD_perm (l : List FrT) (S : List Nat) : (srD l S).Perm S := by
  have := (srtL_perm (fT l.length (fun i => (sbN l i : Int))) (natL S)).map Int.toNat
  rw [natL_toNat] at this
  exact this
theorem asD_perm (T : List Nat) : (asD T).Perm T := by
  have := (foldB_perm (fun a b => decide (a < b)) (natL T)).map Int.toNat
  rw [natL_toNat] at this
  exact this
theorem srD_sorted {l : List FrT} {S : List Nat} (hn : S.Nodup) (hS : ∀ x ∈ S, x < l.length) : (srD l S).Pairwise (bfN l) := by
  have h := foldB_sorted (lt := befI (fT l.length (fun i => (sbN l i : Int)))) (fun x y hxy hb => ?_) (fun x y z h1 h2 => ?_) (natL S) (natL_nodup hn)
  · have e : List.foldr (insB (befI (fT l.length (fun i => (sbN l i : Int))))) [] (natL S) = natL (srD l S) := srD_nat l S
    rw [e] at h
    unfold natL at h
    rw [List.pairwise_map] at h
    refine List.Pairwise.imp_of_mem (fun {a b} ha hb hab => ?_) h
    have ha' := hS a ((srD_perm l S).mem_iff.1 ha)
    have hb' := hS b ((srD_perm l S).mem_iff.1 hb)
    rw [befI_iff', Int.toNat_natCast, Int.toNat_natCast, fT_get ha', fT_get hb'] at hab
    simp only [Option.getD_some] at hab
    unfold bfN
    omega
  · have h1 : ¬ befI (fT l.length (fun i => (sbN l i : Int))) x y = true := by rw [hb]; decide
    rw [befI_iff'] at h1 ⊢
    omega
  · rw [befI_iff'] at h1 h2 ⊢
    omega
theorem asD_sorted {T : List Nat} (hn : T.Nodup) : (asD T).Pairwise (· < ·) := by
  have h := foldB_sorted (lt := fun a b => decide (a < b)) (fun x y hxy hb => by simp at hb ⊢; omega) (fun x y z h1 h2 => by simp at h1 h2 ⊢; omega) (natL T) (natL_nodup hn)
  have e : List.foldr (insB (fun a b => decide (a < b))) [] (natL T) = natL (asD T) := asD_nat T
  rw [e] at h
  unfold natL at h
  rw [List.pairwise_map] at h
  exact h.imp fun h => by simp at h; omega
theorem bf_ext {l : List FrT} : ∀ {A B : List Nat}, A.Pairwise (bfN l) → B.Pairwise (bfN l) → (∀ x, x ∈ A ↔ x ∈ B) → A = B
  | [], [], _, _, _ => rfl
  | [], b :: B, _, _, h => absurd ((h b).2 (List.mem_cons_self ..)) (by simp)
  | a :: A, [], _, _, h => absurd ((h a).1 (List.mem_cons_self ..)) (by simp)
  | a :: A, b :: B, hA, hB, h => by
      obtain ⟨a1, a2⟩ := List.pairwise_cons.1 hA
      obtain ⟨b1, b2⟩ := List.pairwise_cons.1 hB
      have irr : ∀ x, ¬ bfN l x x := fun x h => h.asymm h
      have e : a = b := by
        rcases List.mem_cons.1 ((h a).1 (List.mem_cons_self ..)) with e | h1
        · exact e
        · rcases List.mem_cons.1 ((h b).2 (List.mem_cons_self ..)) with e | h2
          · exact e.symm
          · exact absurd (a1 b h2) (b1 a h1).asymm
      subst e
      rw [bf_ext a2 b2 fun x => ?_]
      constructor
      · intro hx
        rcases List.mem_cons.1 ((h x).1 (List.mem_cons_of_mem _ hx)) with rfl | h1
        · exact absurd (a1 x hx) (irr x)
        · exact h1
      · intro hx
        rcases List.mem_cons.1 ((h x).2 (List.mem_cons_of_mem _ hx)) with rfl | h1
        · exact absurd (b1 x hx) (irr x)
        · exact h1
theorem delL_nat {S : List Nat} (hn : S.Nodup) {k : Nat} (hk : k < S.length) : delL k (natL S) = natL (S.erase S[k]) := by
  rw [List.erase_eq_eraseIdx_of_idxOf (hn.idxOf_getElem k hk), List.eraseIdx_eq_take_drop_succ]
  unfold delL natL
  rw [List.map_append, List.map_take, List.map_drop]
section
variable {l : List FrT} (hp : Prp l)
include hp
theorem divide_eq {w K : Nat} (hw : w ≤ 8) (h1 : ∀ k, k < K → nxD l (2 * w) (itD l (2 * w) k) ≠ none) (h2 : nxD l (2 * w) (itD l (2 * w) K) = none) :
    d_plan_divide (l, fT l.length (fun i => (sbN l i : Int)), (w : Int), ()) = some (dvV l (srD l (itD l (2 * w) K).1) (asD (itD l (2 * w) K).2), ()) := by
  have hn := hp.1
  have hinv := itD_inv hp (2 * w)
  have hSl : ∀ k, (itD l (2 * w) k).1.length ≤ l.length := fun k => nodup_le (hinv k).sn (hinv k).slt
  have hTl : ∀ k, (itD l (2 * w) k).2.length ≤ l.length := fun k => nodup_le (hinv k).tn (fun x hx => ((hinv k).tlt x hx).1)
  unfold d_plan_divide
  have e1 : x1S (l, fT l.length (fun i => (sbN l i : Int)), ()) = some (l, (fT l.length (fun i => (sbN l i : Int)), (fT l.length (kidsV (prL l) 0), (rootsV (prL l) 0, ([], ()))))) := by
    unfold x1S
    have e : madeO ((l.length : Nat) : Int) ((l.length : Nat) : Int) = some l.length := madeO_ok (by omega)
    show (madeO ((l.length : Nat) : Int) ((l.length : Nat) : Int)).bind _ = _
    rw [e]
    simp only [Option.bind_some]
    rw [fT_replicate]
    rfl
  refine bindR _ ?_ e1
  refine bindR (dvV l (itD l (2 * w) 0).1 (itD l (2 * w) 0).2, ()) ?_ (loop_for l.length (fun k => ((l, (fT l.length (fun i => (sbN l i : Int)), (fT l.length (kidsV (prL l) k), (rootsV (prL l) k, ([], ()))))), ())) 0 rfl rfl (Nat.zero_le _) ?_ ?_)
  rotate_left
  · intro k _ hk
    have hg : getI l (k : Int) = some l[k] := getN_some (List.getElem?_eq_getElem hk)
    have a5 := (hp.at hk).2.2.2.2
    have hpf := prL_pf hp k hk
    have hrl := rootsV_length (prL l) k
    simp (disch := omega) only [cond_dec, if_pos, hg, Option.bind_some, a5]
    rcases hpf with h | ⟨hq1, hq2⟩
    · rw [if_neg (by omega)]
      have e7 : x7S ((l, (fT l.length (fun i => (sbN l i : Int)), (fT l.length (kidsV (prL l) k), (rootsV (prL l) k, ([], ()))))), (k : Int), ()) = some (l, (fT l.length (fun i => (sbN l i : Int)), (fT l.length (kidsV (prL l) (k + 1)), (rootsV (prL l) (k + 1), ([], ()))))) := by
        unfold x7S
        show (limO ((rootsV (prL l) k).length + 1)).bind _ = _
        rw [limO_ok (by omega)]
        simp only [Option.bind_some]
        rw [rootsV_succ, if_pos h, fT_congr (f := kidsV (prL l) k) (g := kidsV (prL l) (k + 1)) (fun v hv => by rw [kidsV_succ, if_neg (by omega), List.append_nil])]
        rfl
      refine bindR (_, ()) ?_ (bindR _ rfl e7)
      simp (disch := omega) only [wrap_inc]
    · obtain ⟨p, hpp⟩ : ∃ p : Nat, prL l k = (p : Int) := ⟨(prL l k).toNat, by omega⟩
      have hkl := kidsV_length (prL l) k p
      have hpl : p < l.length := by omega
      rw [if_pos (by omega)]
      have e6 : x6S ((l, (fT l.length (fun i => (sbN l i : Int)), (fT l.length (kidsV (prL l) k), (rootsV (prL l) k, ([], ()))))), l[k], (k : Int), ()) = some (l, (fT l.length (fun i => (sbN l i : Int)), (fT l.length (kidsV (prL l) (k + 1)), (rootsV (prL l) (k + 1), ([], ()))))) := by
        unfold x6S
        show (getI (fT l.length (kidsV (prL l) k)) l[k].2.2.2.1).bind (fun c => (limO (c.length + 1)).bind fun _ => some (l, fT l.length (fun i => (sbN l i : Int)), (fT l.length (kidsV (prL l) k)).set l[k].2.2.2.1.toNat (c ++ [(k : Int)]), rootsV (prL l) k, [], ())) = _
        rw [a5, hpp, getN_some (fT_get hpl)]
        simp only [Option.bind_some]
        rw [limO_ok (by omega)]
        simp only [Option.bind_some, Int.toNat_natCast]
        rw [rootsV_succ, if_neg (by omega), List.append_nil, fT_set]
        refine congrArg (fun a => some (l, fT l.length (fun i => (sbN l i : Int)), a, rootsV (prL l) k, ([] : List Int), ())) (fT_congr fun v hv => ?_)
        rw [kidsV_succ]
        unfold upd
        by_cases e : v = p
        · subst e; rw [if_pos rfl, if_pos hpp]
        · rw [if_neg e, if_neg (by omega), List.append_nil]
      refine bindR (_, ()) ?_ (bindR _ rfl e6)
      simp (disch := omega) only [wrap_inc]
  · simp (disch := omega) only [cond_dec, if_neg]
    rfl
  refine bindR (dvV l (itD l (2 * w) K).1 (itD l (2 * w) K).2, ()) ?_ (loop_seq K (fun k => (dvV l (itD l (2 * w) k).1 (itD l (2 * w) k).2, ())) 0 rfl (Nat.zero_le _) ?_ ?_)
  · have e15 : x15S (dvV l (itD l (2 * w) K).1 (itD l (2 * w) K).2, ()) = some (dvV l (srD l (itD l (2 * w) K).1) (itD l (2 * w) K).2) := by
      unfold x15S
      show (bif inR (fT l.length (fun i => (sbN l i : Int))).length (natL (itD l (2 * w) K).1) then (limO (natL (itD l (2 * w) K).1).length).bind (fun _ => some (l, fT l.length (fun i => (sbN l i : Int)), fT l.length (kidsV (prL l) l.length), srtL (fT l.length (fun i => (sbN l i : Int))) (natL (itD l (2 * w) K).1), natL (itD l (2 * w) K).2, ())) else none) = _
      have hin : inR (fT l.length (fun i => (sbN l i : Int))).length (natL (itD l (2 * w) K).1) = true := by
        unfold inR
        rw [List.all_eq_true]
        intro x hx
        unfold natL at hx
        obtain ⟨y, hy, rfl⟩ := List.mem_map.1 hx
        have := (hinv K).slt y hy
        rw [fT_length]
        simp [this]
      rw [hin, cond_true, limO_ok (by rw [natL_length]; have := hSl K; omega), srD_nat]
      rfl
    refine bindR _ ?_ e15
    unfold d_slices_SortI
    have hl : (dvV l (srD l (itD l (2 * w) K).1) (itD l (2 * w) K).2).2.2.2.2.1 = natL (itD l (2 * w) K).2 := rfl
    rw [hl]
    simp only []
    rw [limO_ok (by rw [natL_length]; have := hTl K; omega)]
    simp only [Option.bind_some, asD_nat]
    rfl
  · intro k _ hk
    obtain ⟨s1, b, hb, s3⟩ := itD_step hp (2 * w) (h1 k hk)
    have hl : (dvV l (itD l (2 * w) k).1 (itD l (2 * w) k).2).2.2.2.1 = natL (itD l (2 * w) k).1 := rfl
    obtain ⟨⟨r, _⟩, hr, hg⟩ := greatest_ok hp (T := (itD l (2 * w) k).2) (hinv k).slt (by have := hSl k; omega)
    rw [s3]
    rcases hg with ⟨_, hg⟩ | ⟨j, rfl, hj, hg⟩
    · exact absurd hb.1 (hg b)
    obtain rfl := hg.uniq hb
    simp only [hl, natL_length]
    rw [decT (show (((itD l (2 * w) k).1.length : Nat) : Int) < IntKind.i64.wrap (2 * (w : Int)) by rw [wrap64 (by omega) (by omega)]; omega), cond_true, hr]
    simp only [Option.bind_some]
    rw [decF (show ¬ ((j : Nat) : Int) < 0 by omega), cond_false, idxN_nat hj]
    simp only [Option.bind_some]
    have ea : (atO (natL (itD l (2 * w) k).1) j fun e15 => some e15) = some (((itD l (2 * w) k).1[j] : Nat) : Int) := atO_some (by simp [natL, hj])
    rw [ea]
    simp only [Option.bind_some]
    generalize hS : (itD l (2 * w) k).1 = S at *
    generalize hT : (itD l (2 * w) k).2 = T at *
    have hSn : S.Nodup := hS ▸ (hinv k).sn
    have hTl' : T.length ≤ l.length := hT ▸ hTl k
    have hSl' : S.length ≤ l.length := hS ▸ hSl k
    have hSj : S[j] < l.length := (hS ▸ (hinv k).slt : ∀ x ∈ S, x < l.length) _ (List.getElem_mem hj)
    have e13 : x13S (dvV l S T, ((S[j] : Nat) : Int), ()) = some (dvV l S (T ++ [S[j]])) := by
      unfold x13S
      show (limO ((natL T).length + 1)).bind (fun _ => some (l, fT l.length (fun i => (sbN l i : Int)), fT l.length (kidsV (prL l) l.length), natL S, natL T ++ [((S[j] : Nat) : Int)], ())) = _
      rw [limO_ok (by rw [natL_length]; omega)]
      simp only [Option.bind_some]
      unfold dvV
      rw [natL_append]
      rfl
    refine bindR _ ?_ e13
    have e14 : x14S (dvV l S (T ++ [S[j]]), (j : Int), ((S[j] : Nat) : Int), ()) = some (dvV l (S.erase S[j] ++ kdN l S[j]) (T ++ [S[j]])) := by
      unfold x14S
      show (getI (fT l.length (kidsV (prL l) l.length)) ((S[j] : Nat) : Int)).bind (fun c => (getI (natL S) (j : Int)).bind fun _ => (limO ((natL S).length + c.length)).bind fun _ => some (l, fT l.length (fun i => (sbN l i : Int)), fT l.length (kidsV (prL l) l.length), delL (j : Int).toNat (natL S) ++ c, natL (T ++ [S[j]]), ())) = _
      rw [getN_some (fT_get hSj)]
      simp only [Option.bind_some]
      rw [nat_get hj]
      simp only [Option.bind_some]
      have := kidsV_length (prL l) l.length S[j]
      rw [limO_ok (by rw [natL_length]; omega)]
      simp only [Option.bind_some, Int.toNat_natCast]
      rw [delL_nat hSn hj, kdN_nat, ← natL_append]
      rfl
    refine bindR _ ?_ e14
    rfl
  · have hl : (dvV l (itD l (2 * w) K).1 (itD l (2 * w) K).2).2.2.2.1 = natL (itD l (2 * w) K).1 := rfl
    simp only [hl, natL_length]
    by_cases hlt : (itD l (2 * w) K).1.length < 2 * w
    · rw [decT (show (((itD l (2 * w) K).1.length : Nat) : Int) < IntKind.i64.wrap (2 * (w : Int)) by rw [wrap64 (by omega) (by omega)]; omega), cond_true]
      obtain ⟨⟨r, _⟩, hr, hg⟩ := greatest_ok hp (T := (itD l (2 * w) K).2) (hinv K).slt (by have := hSl K; omega)
      rcases hg with ⟨rfl, hg⟩ | ⟨j, rfl, hj, hg⟩
      · rw [hr]
        simp only [Option.bind_some]
        rfl
      · have := nxD_some (T := (itD l (2 * w) K).2) hlt hg
        have h2' : nxD l (2 * w) ((itD l (2 * w) K).1, (itD l (2 * w) K).2) = none := h2
        rw [h2'] at this
        cases this
    · rw [decF (show ¬ (((itD l (2 * w) K).1.length : Nat) : Int) < IntKind.i64.wrap (2 * (w : Int)) by rw [wrap64 (by omega) (by omega)]; omega), cond_false]
end
end Go.Fw
end

section
namespace Go.Fw
set_option linter.unusedSimpArgs false
set_option linter.unusedVariables false
open Go
theorem cT_setP {n k : Nat} {P : Nat → Prop} {b : Bool} : (cT n P).set k b = cT n fun v => (v ≠ k ∧ P v) ∨ (v = k ∧ b = true) := by
  classical
  unfold cT
  rw [fT_set]
  refine fT_congr fun v _ => ?_
  unfold upd
  by_cases h : v = k
  · rw [if_pos h]; simp [h]
  · rw [if_neg h]; simp [h]
section
variable {l : List FrT} (hp : Prp l)
include hp
theorem parent_eq {i : Nat} : d_sparseref32q_parent (l, (i : Int), ()) = some (decide (kdN l i ≠ []), ()) := by
  have hn := hp.1
  unfold d_sparseref32q_parent
  rw [← Ok.eq_iff]
  refine Ok.bind_of (P := fun q => match q with | .inl _ => kdN l i = [] | .inr r => r = (true, ()) ∧ kdN l i ≠ []) ?_ ?_
  · refine Ok.for l.length (fun c _ => ∀ j, j < c → prL l j ≠ (i : Int)) (i0 := 0) rfl (fun j h => by omega) (Nat.zero_le _) ?_ ?_
    · rintro c ⟨⟩ _ hc hI
      have hg : getI l (c : Int) = some l[c] := getN_some (List.getElem?_eq_getElem hc)
      have a5 := (hp.at hc).2.2.2.2
      simp (disch := omega) only [cond_dec, if_pos, hg, Option.bind_some, a5, wrap_inc]
      by_cases e : prL l c = (i : Int)
      · rw [e]
        simp only [beq_self_eq_true, cond_true]
        exact Ok.some_iff.2 ⟨rfl, fun h => by have : c ∈ kdN l i := mem_kdN.2 ⟨hc, e⟩; rw [h] at this; cases this⟩
      · have : (prL l c == (i : Int)) = false := by simpa using e
        rw [this, cond_false]
        refine Ok.some_iff.2 ⟨rfl, fun j hj => ?_⟩
        by_cases ej : j = c
        · subst ej; exact e
        · exact hI j (by omega)
    · rintro ⟨⟩ hI
      simp (disch := omega) only [cond_dec, if_neg]
      refine Ok.some_iff.2 ?_
      show kdN l i = []
      rw [List.eq_nil_iff_forall_not_mem]
      intro c hc
      obtain ⟨h1, h2⟩ := mem_kdN.1 hc
      exact hI c h1 h2
  · rintro (q | q) hq
    · exact Ok.some_iff.2 (by rw [decF (show ¬ kdN l i ≠ [] from fun h => h hq)])
    · exact Ok.some_iff.2 (by rw [hq.1, decT hq.2])
omit hp in
theorem bf_new {i b : Nat} (h : b < i) : bfN l i b ↔ sbN l b < sbN l i := by unfold bfN; omega
open Classical in
theorem scan_ok (top : List Bool) {S : List Nat} (hS : ∀ x ∈ S, x < l.length) : Ok (loop (σ := (Int × Int × (List Bool) × (List Bool) × Unit)) (ρ := (Int × (List Bool) × (List Bool) × Unit)) (fun (best_92, i_93, in_94, top_95, _) =>
  (bif (decide (i_93 < (((l).length : Nat) : Int))) then (
  Option.bind (α := (Int × (List Bool) × (List Bool) × Unit)) (
  Option.bind (α := (Bool × (List Bool) × (List Bool) × Unit)) (
  (idxN (in_94).length i_93).bind fun k96 =>
  ((atO in_94 k96 fun e97 => some e97)).bind fun y98 =>
  (bif (y98 == true) then ((d_sparseref32q_parent (l, i_93, ())).bind fun (r99, _) =>
  (bif (r99 == true) then ((bif ((decide (best_92 < ((0) : Int))) == false) then ((getI (fT l.length (fun i => (sbN l i : Int))) i_93).bind fun y100 =>
  (getI (fT l.length (fun i => (sbN l i : Int))) best_92).bind fun y101 =>
  some ((decide (y100 > y101)), in_94, top_95, ())) else (some (true, in_94, top_95, ())))) else (some (false, in_94, top_95, ())))) else (some (false, in_94, top_95, ())))) fun (s_102, in_103, top_104, _) =>
  (bif s_102 then (
  some (i_93, in_103, top_104, ())) else (
  some (best_92, in_103, top_104, ())))) fun (best_105, in_106, top_107, _) =>
  some (.inl (best_105, (IntKind.i64.wrap (i_93 + ((1) : Int))), in_106, top_107, ()))) else (
  some (.inr (best_92, in_94, top_95, ()))))) ((-1 : Int), ((0) : Int), cT l.length (fun v => v ∈ S), top, ())) (fun r => r.2 = (cT l.length (fun v => v ∈ S), top, ()) ∧ ((r.1 = -1 ∧ ∀ j, ¬ WkD l S j) ∨ ∃ b : Nat, r.1 = (b : Int) ∧ BestQ l (WkD l S) b)) := by
  have hn := hp.1
  refine Ok.seq l.length (fun i s => ∃ r : Int, s = (r, (i : Int), cT l.length (fun v => v ∈ S), top, ()) ∧ ((r = -1 ∧ ∀ j, ¬ (j < i ∧ WkD l S j)) ∨ ∃ b : Nat, r = (b : Int) ∧ BestQ l (fun j => j < i ∧ WkD l S j) b)) 0 ⟨-1, rfl, .inl ⟨rfl, fun j h => by omega⟩⟩ (Nat.zero_le _) ?_ ?_
  · rintro i _ _ hi ⟨r, rfl, hI⟩
    have gi : getI (fT l.length (fun i => (sbN l i : Int))) (i : Int) = some (sbN l i : Int) := getN_some (fT_get hi)
    simp (disch := omega) only [cond_dec, if_pos, cT_length, idxN_nat, Option.bind_some, cT_at, cond_dec_beq, parent_eq hp, cond_dec_beqF]
    by_cases hk : WkD l S i
    · have e : ∀ j, (j < i + 1 ∧ WkD l S j) ↔ ((j < i ∧ WkD l S j) ∨ j = i) := fun j => ⟨fun h => by by_cases ej : j = i; exact .inr ej; exact .inl ⟨by omega, h.2⟩, fun h => by rcases h with h | rfl; exact ⟨by omega, h.2⟩; exact ⟨by omega, hk⟩⟩
      rw [if_pos hk.1, if_pos hk.2]
      rcases hI with ⟨rfl, h2⟩ | ⟨b, rfl, h3⟩
      · simp (disch := omega) only [if_pos, Option.bind_some, cond_true, wrap_inc]
        exact Ok.some_iff.2 ⟨(i : Int), rfl, .inr ⟨i, rfl, BestQ.first h2 e⟩⟩
      · have hbl : b < l.length := by have := h3.1.1; omega
        have gb : getI (fT l.length (fun i => (sbN l i : Int))) (b : Int) = some (sbN l b : Int) := getN_some (fT_get hbl)
        simp (disch := omega) only [if_neg, gi, gb, Option.bind_some, cond_dec]
        have hnew := bf_new (l := l) h3.1.1
        by_cases hc : (sbN l i : Int) > (sbN l b : Int)
        · rw [if_pos hc]
          simp (disch := omega) only [Option.bind_some, wrap_inc]
          exact Ok.some_iff.2 ⟨(i : Int), rfl, .inr ⟨i, rfl, h3.better (hnew.2 (by omega)) e⟩⟩
        · rw [if_neg hc]
          simp (disch := omega) only [Option.bind_some, wrap_inc]
          exact Ok.some_iff.2 ⟨(b : Int), rfl, .inr ⟨b, rfl, h3.keep (fun h => hc (by have := hnew.1 h; omega)) e⟩⟩
    · have e : ∀ j, (j < i + 1 ∧ WkD l S j) ↔ (j < i ∧ WkD l S j) := fun j => ⟨fun h => by by_cases ej : j = i; (subst ej; exact absurd h.2 hk); exact ⟨by omega, h.2⟩, fun h => ⟨by omega, h.2⟩⟩
      have fin : ∃ r' : Int, (r, ((i + 1 : Nat) : Int), cT l.length (fun v => v ∈ S), top, ()) = (r', ((i + 1 : Nat) : Int), cT l.length (fun v => v ∈ S), top, ()) ∧ ((r' = -1 ∧ ∀ j, ¬ (j < i + 1 ∧ WkD l S j)) ∨ ∃ b : Nat, r' = (b : Int) ∧ BestQ l (fun j => j < i + 1 ∧ WkD l S j) b) := by
        refine ⟨r, rfl, ?_⟩
        rcases hI with ⟨h1, h2⟩ | ⟨b, h1, h3⟩
        · exact .inl ⟨h1, fun j h => h2 j ((e j).1 h)⟩
        · exact .inr ⟨b, h1, h3.congr e⟩
      by_cases h1 : i ∈ S
      · have h2 : ¬ kdN l i ≠ [] := fun h => hk ⟨h1, h⟩
        rw [if_pos h1, if_neg h2]
        simp (disch := omega) only [Option.bind_some, cond_false, wrap_inc]
        exact Ok.some_iff.2 fin
      · rw [if_neg h1]
        simp (disch := omega) only [Option.bind_some, cond_false, wrap_inc]
        exact Ok.some_iff.2 fin
  · rintro _ ⟨r, rfl, hI⟩
    simp (disch := omega) only [cond_dec, if_neg]
    refine Ok.some_iff.2 ⟨rfl, ?_⟩
    have e : ∀ j, WkD l S j ↔ (j < l.length ∧ WkD l S j) := fun j => ⟨fun h => ⟨hS j h.1, h⟩, fun h => h.2⟩
    rcases hI with ⟨h1, h2⟩ | ⟨b, h1, h3⟩
    · exact .inl ⟨h1, fun j h => h2 j ((e j).1 h)⟩
    · exact .inr ⟨b, h1, h3.congr e⟩
end
theorem put_sorted {l : List FrT} {A B : List Nat} {i : Nat} (hs : (A ++ B).Pairwise (bfN l)) (hlt : ∀ x ∈ A ++ B, x < i) (hA : ∀ A' y, A = A' ++ [y] → ¬ sbN l y < sbN l i) (hB : ∀ y ∈ B, sbN l y < sbN l i) : (A ++ i :: B).Pairwise (bfN l) := by
  rw [List.pairwise_append] at hs ⊢
  obtain ⟨h1, h2, h3⟩ := hs
  have hAi : ∀ a ∈ A, bfN l a i := by
    intro a ha
    rcases List.eq_nil_or_concat A with h | ⟨A', y, h⟩
    · subst h; cases ha
    · rw [List.concat_eq_append] at h
      have h4 := hA A' y h
      have h5 := hlt a (List.mem_append_left _ ha)
      subst h
      rcases List.mem_append.1 ha with ha | ha
      · have h6 := (List.pairwise_append.1 h1).2.2 a ha y (by simp)
        unfold bfN at *; omega
      · rw [List.mem_singleton] at ha
        subst ha
        unfold bfN; omega
  refine ⟨h1, List.pairwise_cons.2 ⟨fun y hy => .inl (hB y hy), h2⟩, fun a ha y hy => ?_⟩
  rcases List.mem_cons.1 hy with rfl | hy
  · exact hAi a ha
  · exact h3 a ha y hy
section
variable {l : List FrT} (hp : Prp l) (hr : ∀ x ∈ l, InR x)
include hp hr
theorem Roots_eq {w K : Nat} (hw : w ≤ 8) (h1 : ∀ k, k < K → nxD l (2 * w) (itD l (2 * w) k) ≠ none) (h2 : nxD l (2 * w) (itD l (2 * w) K) = none) :
    d_sparseref32q_Roots (l, (w : Int), ()) = some (natL (srD l (itD l (2 * w) K).1), cT l.length (fun v => v ∈ (itD l (2 * w) K).2), ()) := by
  classical
  have hn := hp.1
  have hinv := itD_inv hp (2 * w)
  have hSl : ∀ k, (itD l (2 * w) k).1.length ≤ l.length := fun k => nodup_le (hinv k).sn (hinv k).slt
  unfold d_sparseref32q_Roots
  simp (disch := omega) only [refSubtrees_eq hp hr, Option.bind_some, madeO_ok, cT_none]
  -- the roots
  refine bindR (((rtN l).length : Int), cT l.length (fun v => v ∈ rtN l), cT l.length (fun _ => False), ()) ?_ (loop_seq l.length (fun i => (((rootsV (prL l) i).length : Int), (i : Int), cT l.length (fun v => v < i ∧ prL l v = -1), cT l.length (fun _ => False), ())) 0 ?_ (Nat.zero_le _) ?_ ?_)
  rotate_left
  · exact congrArg (fun a => ((0 : Int), (0 : Int), a, cT l.length (fun _ => False), ())) (cT_congr fun v _ => by simp)
  · intro i _ hi
    have hg : getI l (i : Int) = some l[i] := getN_some (List.getElem?_eq_getElem hi)
    have a5 := (hp.at hi).2.2.2.2
    have hpf := prL_pf hp i hi
    have hrl := rootsV_length (prL l) i
    simp (disch := omega) only [cond_dec, if_pos, hg, Option.bind_some, a5, cT_length, idxN_nat, cT_at, cT_setP]
    have e : cT l.length (fun v => (v ≠ i ∧ v < i ∧ prL l v = -1) ∨ v = i ∧ decide (prL l i < 0) = true) = cT l.length (fun v => v < i + 1 ∧ prL l v = -1) := cT_congr fun v hv => by
      simp only [decide_eq_true_eq]
      by_cases ev : v = i
      · subst ev
        constructor
        · rintro (h | ⟨_, h⟩)
          · exact absurd rfl h.1
          · exact ⟨by omega, by omega⟩
        · rintro ⟨_, h⟩
          exact .inr ⟨rfl, by omega⟩
      · constructor
        · rintro (h | h)
          · exact ⟨by omega, h.2.2⟩
          · exact absurd h.1 ev
        · rintro ⟨h, h3⟩
          exact .inl ⟨ev, by omega, h3⟩
    rw [e, rootsV_succ]
    by_cases hq : prL l i = -1
    · simp only [hq, if_true]
      rw [if_pos (.inr ⟨trivial, by decide⟩)]
      simp (disch := omega) only [Option.bind_some, wrap_inc, List.length_append, List.length_singleton]
    · simp only [hq, if_false]
      rw [if_neg (by rintro (⟨h, _⟩ | ⟨_, h⟩); exact h rfl; simp at h; omega)]
      simp (disch := omega) only [Option.bind_some, wrap_inc, List.append_nil]
  · simp (disch := omega) only [cond_dec, if_neg]
    have e1 : ((rootsV (prL l) l.length).length : Int) = ((rtN l).length : Int) := by rw [rtN_nat, natL_length]
    have e2 : cT l.length (fun v => v < l.length ∧ prL l v = -1) = cT l.length (fun v => v ∈ rtN l) := cT_congr fun v hv => by rw [mem_rtN]
    rw [e1, e2]
  dsimp only
  -- the steps
  refine bindR (cT l.length (fun v => v ∈ (itD l (2 * w) K).1), cT l.length (fun v => v ∈ (itD l (2 * w) K).2), ()) ?_ (loop_seq K (fun k => ((((itD l (2 * w) k).1.length : Nat) : Int), cT l.length (fun v => v ∈ (itD l (2 * w) k).1), cT l.length (fun v => v ∈ (itD l (2 * w) k).2), ())) 0 ?_ (Nat.zero_le _) ?_ ?_)
  rotate_left
  · refine congrArg (fun a => (((rtN l).length : Int), cT l.length (fun v => v ∈ rtN l), a, ())) (cT_congr fun v _ => ?_)
    show False ↔ v ∈ ([] : List Nat)
    simp
  · intro k _ hk
    obtain ⟨s1, b, hb, s3⟩ := itD_step hp (2 * w) (h1 k hk)
    rw [s3]
    have hI := hinv k
    generalize hS : (itD l (2 * w) k).1 = S at *
    generalize hT : (itD l (2 * w) k).2 = T at *
    have hSl' : S.length ≤ l.length := hS ▸ hSl k
    simp only []
    rw [decT (show ((S.length : Nat) : Int) < IntKind.i64.wrap (2 * (w : Int)) by rw [wrap64 (by omega) (by omega)]; omega), cond_true, ← Ok.eq_iff]
    refine Ok.bind_of (scan_ok hp _ hI.slt) ?_
    rintro ⟨r, _⟩ ⟨rfl, hg⟩
    rcases hg with ⟨_, hg⟩ | ⟨j, hj, hg⟩
    · exact absurd hb.1 (hg b)
    obtain rfl := hg.uniq hb
    dsimp only at hj
    subst hj
    have hjl := hI.slt j hb.1.1
    rw [decF (show ¬ ((j : Nat) : Int) < 0 by omega), cond_false]
    simp (disch := omega) only [cT_length, idxN_nat, cT_at, Option.bind_some, cT_setP]
    have hSpos : 1 ≤ S.length := List.length_pos_of_mem hb.1.1
    rw [Ok.eq_iff]
    refine bindR (((S.length - 1 + (kidsV (prL l) l.length j).length : Nat) : Int), cT l.length (fun v => (v ≠ j ∧ v ∈ S) ∨ (v < l.length ∧ prL l v = (j : Int))), cT l.length (fun v => v ∈ T ++ [j]), ()) ?_ (loop_seq l.length (fun i => (((S.length - 1 + (kidsV (prL l) i j).length : Nat) : Int), (i : Int), cT l.length (fun v => (v ≠ j ∧ v ∈ S) ∨ (v < i ∧ prL l v = (j : Int))), cT l.length (fun v => v ∈ T ++ [j]), ())) 0 ?_ (Nat.zero_le _) ?_ ?_)
    · have e1 : (S.erase j ++ kdN l j).length = S.length - 1 + (kidsV (prL l) l.length j).length := by
        rw [List.length_append, List.length_erase_of_mem hb.1.1, kdN_nat, natL_length]
      have e2 : cT l.length (fun v => v ∈ S.erase j ++ kdN l j) = cT l.length (fun v => (v ≠ j ∧ v ∈ S) ∨ (v < l.length ∧ prL l v = (j : Int))) := cT_congr fun v hv => by
        rw [List.mem_append, hI.sn.mem_erase_iff, mem_kdN]
      rw [e1, e2]
    · have e0 : IntKind.i64.wrap (((S.length : Nat) : Int) - 1) = ((S.length - 1 + (kidsV (prL l) 0 j).length : Nat) : Int) := by
        rw [wrap_pred hSpos (by omega)]; rfl
      have e1 : cT l.length (fun v => v ≠ j ∧ v ∈ S ∨ v = j ∧ false = true) = cT l.length (fun v => (v ≠ j ∧ v ∈ S) ∨ (v < 0 ∧ prL l v = (j : Int))) := cT_congr fun v _ => by simp
      have e2 : cT l.length (fun v => v ≠ j ∧ v ∈ T ∨ v = j ∧ True) = cT l.length (fun v => v ∈ T ++ [j]) := cT_congr fun v _ => by
        rw [List.mem_append, List.mem_singleton]
        by_cases ev : v = j <;> simp [ev]
      rw [e0, e1, e2]
      rfl
    · intro i _ hi
      have hg : getI l (i : Int) = some l[i] := getN_some (List.getElem?_eq_getElem hi)
      have a5 := (hp.at hi).2.2.2.2
      have hkl := kidsV_length (prL l) i j
      simp (disch := omega) only [cond_dec, if_pos, hg, Option.bind_some, a5, kidsV_succ]
      by_cases hq : prL l i = (j : Int)
      · rw [if_pos hq, hq]
        simp (disch := omega) only [beq_self_eq_true, cond_true, cT_length, idxN_nat, Option.bind_some, cT_at, cT_setP, wrap_inc, List.length_append, List.length_singleton]
        have e : cT l.length (fun v => v ≠ i ∧ (v ≠ j ∧ v ∈ S ∨ v < i ∧ prL l v = (j : Int)) ∨ v = i ∧ True) = cT l.length (fun v => (v ≠ j ∧ v ∈ S) ∨ (v < i + 1 ∧ prL l v = (j : Int))) := cT_congr fun v _ => by
          by_cases ev : v = i
          · subst ev; simp [hq]
          · constructor
            · rintro (⟨_, h | h⟩ | h)
              · exact .inl h
              · exact .inr ⟨by omega, h.2⟩
              · exact absurd h.1 ev
            · rintro (h | h)
              · exact .inl ⟨ev, .inl h⟩
              · exact .inl ⟨ev, .inr ⟨by omega, h.2⟩⟩
        rw [e]
        rfl
      · have hb' : (prL l i == (j : Int)) = false := by simpa using hq
        rw [if_neg hq, hb', List.append_nil]
        simp (disch := omega) only [cond_false, Option.bind_some, wrap_inc]
        have e : cT l.length (fun v => v ≠ j ∧ v ∈ S ∨ v < i ∧ prL l v = (j : Int)) = cT l.length (fun v => (v ≠ j ∧ v ∈ S) ∨ (v < i + 1 ∧ prL l v = (j : Int))) := cT_congr fun v _ => by
          by_cases ev : v = i
          · subst ev; simp [hq]
          · exact or_congr Iff.rfl ⟨fun h => ⟨by omega, h.2⟩, fun h => ⟨by omega, h.2⟩⟩
        rw [e]
    · simp (disch := omega) only [cond_dec, if_neg]
  · have hI := hinv K
    have h2' : nxD l (2 * w) ((itD l (2 * w) K).1, (itD l (2 * w) K).2) = none := h2
    generalize hS : (itD l (2 * w) K).1 = S at *
    generalize hT : (itD l (2 * w) K).2 = T at *
    have hSl' : S.length ≤ l.length := hS ▸ hSl K
    simp only []
    by_cases hlt : S.length < 2 * w
    · rw [decT (show ((S.length : Nat) : Int) < IntKind.i64.wrap (2 * (w : Int)) by rw [wrap64 (by omega) (by omega)]; omega), cond_true, ← Ok.eq_iff]
      refine Ok.bind_of (scan_ok hp _ hI.slt) ?_
      rintro ⟨r, _⟩ ⟨rfl, hg⟩
      rcases hg with ⟨hr, hg⟩ | ⟨j, hj, hg⟩
      · dsimp only at hr
        subst hr
        exact Ok.some_iff.2 rfl
      · have := nxD_some (T := T) hlt hg
        rw [h2'] at this
        cases this
    · rw [decF (show ¬ ((S.length : Nat) : Int) < IntKind.i64.wrap (2 * (w : Int)) by rw [wrap64 (by omega) (by omega)]; omega), cond_false]
  -- the list
  have hI := hinv K
  generalize hS : (itD l (2 * w) K).1 = S at *
  generalize hT : (itD l (2 * w) K).2 = T at *
  dsimp only
  rw [← Ok.eq_iff]
  refine Ok.bind_of (P := fun r => r = (cT l.length (fun v => v ∈ T), natL (srD l S), ())) ?_ (by rintro _ rfl; exact Ok.some_iff.2 rfl)
  refine Ok.seq l.length (fun i s => ∃ O : List Nat, s = ((i : Int), cT l.length (fun v => v ∈ S), cT l.length (fun v => v ∈ T), natL O, ()) ∧ O.Pairwise (bfN l) ∧ ∀ x, x ∈ O ↔ x < i ∧ x ∈ S) 0 ⟨[], rfl, .nil, fun x => by simp⟩ (Nat.zero_le _) ?_ ?_
  · rintro i _ _ hi ⟨O, rfl, hO1, hO2⟩
    have gi : getI (fT l.length (fun i => (sbN l i : Int))) (i : Int) = some (sbN l i : Int) := getN_some (fT_get hi)
    have hOn : O.Nodup := List.nodup_iff_pairwise_ne.2 (hO1.imp fun h e => by subst e; exact h.asymm h)
    have hOl : O.length ≤ l.length := nodup_le hOn fun x hx => by have := (hO2 x).1 hx; omega
    simp (disch := omega) only [cond_dec, if_pos, cT_length, idxN_nat, Option.bind_some, cT_at, cond_not_dec]
    by_cases hiS : i ∈ S
    · rw [if_pos hiS]
      refine Ok.bind_of (P := fun r => ∃ O' : List Nat, r = (cT l.length (fun v => v ∈ S), cT l.length (fun v => v ∈ T), natL O', ()) ∧ O'.Pairwise (bfN l) ∧ ∀ x, x ∈ O' ↔ x < i + 1 ∧ x ∈ S) ?_ ?_
      · refine Ok.bind_of (P := fun r => ∃ A B : List Nat, O = A ++ B ∧ r = ((A.length : Int), cT l.length (fun v => v ∈ S), cT l.length (fun v => v ∈ T), natL O, ()) ∧ (∀ A' y, A = A' ++ [y] → ¬ sbN l y < sbN l i) ∧ ∀ y ∈ B, sbN l y < sbN l i) ?_ ?_
        · refine Ok.seq O.length (fun t s => ∃ A B : List Nat, O = A ++ B ∧ A.length + t = O.length ∧ s = ((A.length : Int), cT l.length (fun v => v ∈ S), cT l.length (fun v => v ∈ T), natL O, ()) ∧ ∀ y ∈ B, sbN l y < sbN l i) 0 ⟨O, [], by simp, by simp, by rw [natL_length], by simp⟩ (Nat.zero_le _) ?_ ?_
          · rintro t _ _ ht ⟨A, B, hAB, hAt, rfl, hB⟩
            rcases List.eq_nil_or_concat A with h | ⟨A', y, h⟩
            · subst h; simp at hAt; omega
            · rw [List.concat_eq_append] at h
              have hAl : A.length = A'.length + 1 := by rw [h]; simp
              have hyO : y ∈ O := by rw [hAB, h]; simp
              have hyl : y < l.length := by have := (hO2 y).1 hyO; omega
              have gy : getI (fT l.length (fun i => (sbN l i : Int))) (y : Int) = some (sbN l y : Int) := getN_some (fT_get hyl)
              have hOA : O = A' ++ y :: B := by rw [hAB, h]; simp
              have hat : (natL O)[A'.length]? = some (y : Int) := by
                rw [hOA, natL_append]
                exact get_mid (A := A') (X := (y : Int)) (B := natL B)
              have hw1 : IntKind.i64.wrap ((A.length : Int) - 1) = (A'.length : Int) := by rw [hAl, wrap_pred (by omega) (by omega)]; rfl
              have hOA' : A'.length < O.length := by omega
              simp (disch := first | omega | (rw [natL_length]; omega)) only [decT (show (A.length : Int) > 0 by omega), beq_self_eq_true, cond_true, hw1, idxN_nat, Option.bind_some, atO_some hat, gy, gi, cond_dec]
              by_cases hc : (sbN l y : Int) < (sbN l i : Int)
              · rw [if_pos hc]
                refine Ok.some_iff.2 ⟨A', y :: B, hOA, by omega, rfl, fun z hz => ?_⟩
                rcases List.mem_cons.1 hz with rfl | hz
                · omega
                · exact hB z hz
              · rw [if_neg hc]
                refine Ok.some_iff.2 ⟨A, B, hAB, rfl, fun A'' y' e => ?_, hB⟩
                rw [h] at e
                have := List.append_inj' e rfl
                have e2 := this.2
                simp only [List.cons.injEq, and_true] at e2
                subst e2
                omega
          · rintro _ ⟨A, B, hAB, hAt, rfl, hB⟩
            have hA0 : A = [] := List.eq_nil_of_length_eq_zero (by omega)
            subst hA0
            simp only [List.length_nil, decF (show ¬ (((0 : Nat) : Int)) > 0 by omega)]
            exact Ok.some_iff.2 ⟨[], B, hAB, rfl, fun A' y e => by simp at e, hB⟩
        · rintro _ ⟨A, B, hAB, rfl, hA, hB⟩
          have hAl : A.length ≤ O.length := by rw [hAB]; simp
          have t1 : ((natL O).take A.length).drop 0 = natL A := by rw [hAB, natL_append, List.drop_zero, List.take_append_of_le_length (by rw [natL_length]; omega), List.take_of_length_le (by rw [natL_length]; omega)]
          have t2 : ((natL O).take O.length).drop A.length = natL B := by
            rw [List.take_of_length_le (by rw [natL_length]; omega), hAB, natL_append, List.drop_append_of_le_length (by rw [natL_length]; omega), List.drop_of_length_le (by rw [natL_length]; omega), List.nil_append]
          have hBl : A.length + B.length = O.length := by rw [hAB]; simp
          have hpos : ∀ n, posO n = some () := fun _ => rfl
          simp (disch := first | omega | (simp only [natL_length, List.length_append, List.length_nil, List.length_singleton]; omega)) only [Option.bind_some, natO_ok, leO_ok, hpos, Option.map_some, natL_length, t1, t2, limO_ok]
          refine Ok.some_iff.2 ⟨A ++ i :: B, ?_, ?_, ?_⟩
          · rw [natL_append]
            simp [natL]
          · exact put_sorted (hAB ▸ hO1) (fun x hx => by rw [← hAB] at hx; exact ((hO2 x).1 hx).1) hA hB
          · intro x
            have := hO2 x
            rw [hAB, List.mem_append] at this
            rw [List.mem_append, List.mem_cons]
            constructor
            · rintro (h | rfl | h)
              · have := this.1 (.inl h); exact ⟨by omega, this.2⟩
              · exact ⟨by omega, hiS⟩
              · have := this.1 (.inr h); exact ⟨by omega, this.2⟩
            · rintro ⟨h1, h2⟩
              by_cases e : x = i
              · exact .inr (.inl e)
              · rcases this.2 ⟨by omega, h2⟩ with h | h
                · exact .inl h
                · exact .inr (.inr h)
      · rintro _ ⟨O', rfl, h1, h2⟩
        simp (disch := omega) only [wrap_inc]
        exact Ok.some_iff.2 ⟨O', rfl, h1, h2⟩
    · rw [if_neg hiS]
      simp (disch := omega) only [Option.bind_some, wrap_inc]
      refine Ok.some_iff.2 ⟨O, rfl, hO1, fun x => (hO2 x).trans ⟨fun h => ⟨by omega, h.2⟩, fun h => ⟨?_, h.2⟩⟩⟩
      have : x ≠ i := fun e => hiS (e ▸ h.2)
      omega
  · rintro _ ⟨O, rfl, hO1, hO2⟩
    simp (disch := omega) only [cond_dec, if_neg]
    refine Ok.some_iff.2 ?_
    have : O = srD l S := bf_ext hO1 (srD_sorted hI.sn hI.slt) fun x => by
      rw [hO2, (srD_perm l S).mem_iff]
      exact ⟨fun h => h.2, fun h => ⟨hI.slt x h, h⟩⟩
    rw [this]
end
end Go.Fw
end

section
namespace Go.Fw
set_option linter.unusedSimpArgs false
set_option linter.unusedVariables false
open Go
theorem ifcg {α : Type} {p q : Prop} [Decidable p] [Decidable q] {a b : α} (h : p ↔ q) : (if p then a else b) = if q then a else b := by
  by_cases hp : p
  · rw [if_pos hp, if_pos (h.1 hp)]
  · rw [if_neg hp, if_neg (fun x => hp (h.2 x))]
section
variable {l : List FrT} (hp : Prp l)
include hp
noncomputable def giF (l : List FrT) (own : Nat → Int) (i : Nat) (w : Int) : Nat → Int := fun j => open Classical in if Sub l.length (prL l) j i then w else own j
theorem give_deep {S T : List Nat} {L : List Int} {w : Int} : ∀ d i, i < d → i < l.length → ∀ own : Nat → Int,
    r_plan_division_give d (some (dvV l S T), (fT l.length own, (L, ())), (i : Int), w, ()) = some ((fT l.length (giF l own i w), (L, ())), ()) := by
  classical
  intro d
  induction d with
  | zero => intro i h; omega
  | succ d ih =>
    intro i hd hi own
    have hn := hp.1
    show r_plan_division_giveq_s (r_plan_division_give d) (some (dvV l S T), (fT l.length own, (L, ())), (i : Int), w, ()) = some ((fT l.length (giF l own i w), (L, ())), ())
    unfold r_plan_division_giveq_s
    have gk : getI (dvV l S T).2.2.1 (i : Int) = some (natL (kdN l i)) := getN_some (fT_get hi)
    have hkl := kdN_len l i
    simp (disch := omega) only [fT_length, idxN_nat, Option.bind_some, atO_fT, Option.map_some, fT_set, gk]
    refine bindR ((fT l.length (giF l own i w), (L, ())), ()) rfl (loop_for (kdN l i).length (fun k => ((fT l.length (fun j => if j = i ∨ ∃ c ∈ (kdN l i).take k, Sub l.length (prL l) j c then w else own j), (L, ())), ())) 0 rfl ?_ (Nat.zero_le _) ?_ ?_)
    · refine congrArg (fun a => ((a, (L, ())), ())) (fT_congr fun j hj => ?_)
      unfold upd
      by_cases e : j = i
      · rw [if_pos e, if_pos (.inl e)]
      · rw [if_neg e, if_neg (by simp [e])]
    · intro k _ hk
      have gc : getI (natL (kdN l i)) (k : Int) = some (((kdN l i)[k] : Nat) : Int) := nat_get hk
      obtain ⟨c1, c2⟩ := mem_kdN.1 (List.getElem_mem hk)
      have c3 := prL_pf hp _ c1
      simp (disch := omega) only [cond_dec, natL_length, if_pos, gc, Option.bind_some]
      rw [ih _ (by omega) c1]
      simp (disch := omega) only [Option.bind_some, wrap_inc]
      refine congrArg (fun a => some (Sum.inl (((k + 1 : Nat) : Int), (a, (L, ())), ()))) (fT_congr fun j hj => ?_)
      unfold giF
      rw [← take_snoc hk]
      by_cases e : Sub l.length (prL l) j (kdN l i)[k]
      · rw [if_pos e, if_pos (.inr ⟨_, List.mem_append_right _ (List.mem_singleton.2 rfl), e⟩)]
      · rw [if_neg e]
        refine ifcg ?_
        refine or_congr Iff.rfl ⟨fun ⟨c, h1, h2⟩ => ⟨c, List.mem_append_left _ h1, h2⟩, fun ⟨c, h1, h2⟩ => ?_⟩
        rcases List.mem_append.1 h1 with h1 | h1
        · exact ⟨c, h1, h2⟩
        · rw [List.mem_singleton] at h1
          subst h1
          exact absurd h2 e
    · simp (disch := omega) only [cond_dec, natL_length, if_neg, List.take_length]
      refine congrArg (fun a => some (Sum.inr ((a, (L, ())), ()))) (fT_congr fun j hj => ?_)
      unfold giF
      refine ifcg ?_
      rw [Sub.last_iff]
      refine or_congr Iff.rfl ⟨fun ⟨c, h1, h2⟩ => ⟨c, h2, (mem_kdN.1 h1).1, (mem_kdN.1 h1).2⟩, fun ⟨c, h1, h2⟩ => ⟨c, mem_kdN.2 ⟨h2.1, h2.2⟩, h1⟩⟩
theorem give_eq {S T : List Nat} {L : List Int} {w : Int} {i : Nat} (hi : i < l.length) (own : Nat → Int) :
    d_plan_division_give (some (dvV l S T), (fT l.length own, (L, ())), (i : Int), w, ()) = some ((fT l.length (giF l own i w), (L, ())), ()) := by
  unfold d_plan_division_give
  show fixO (deep r_plan_division_giveq_s) _ = _
  rw [fixO_iff r_plan_division_giveq_mono]
  exact ⟨i + 1, give_deep hp (i + 1) i (by omega) hi own⟩
open Classical in
theorem leads_eq {i r : Nat} (hi : i < l.length) (hr : r < l.length) : d_sparseref32q_leads (l, (i : Int), (r : Int), ()) = some (decide (Sub l.length (prL l) i r), ()) := by
  have hn := hp.1
  unfold d_sparseref32q_leads
  rw [← Ok.eq_iff]
  refine Ok.bind_of (P := fun q => (q.1 = (r : Int) ↔ Sub l.length (prL l) i r)) ?_ ?_
  · refine Ok.loop (fun s => (s.1 = -1 ∧ ¬ Sub l.length (prL l) i r) ∨ ∃ j : Nat, s.1 = (j : Int) ∧ j < l.length ∧ (Sub l.length (prL l) i r ↔ Sub l.length (prL l) j r)) (fun s => if s.1 < 0 then 0 else l.length + 1 - s.1.toNat) (.inr ⟨i, rfl, hi, Iff.rfl⟩) ?_
    rintro ⟨s, ⟨⟩⟩ (⟨h1, h2⟩ | ⟨j, h1, hj, h2⟩)
    · dsimp only at h1
      subst h1
      simp only [decF (show ¬ (-1 : Int) ≥ 0 by omega)]
      exact Ok.some_iff.2 ⟨fun h => absurd h (by show ¬ ((-1 : Int) = (r : Int)); omega), fun h => absurd h h2⟩
    · dsimp only at h1
      subst h1
      simp only [decT (show (j : Int) ≥ 0 by omega), beq_self_eq_true, cond_true, bneI]
      by_cases e : j = r
      · subst e
        simp only [decT, Bool.not_true, cond_false]
        exact Ok.some_iff.2 ⟨fun _ => h2.2 (.refl _), fun _ => rfl⟩
      · have hg : getI l (j : Int) = some l[j] := getN_some (List.getElem?_eq_getElem hj)
        have a5 := (hp.at hj).2.2.2.2
        simp only [decF (show ¬ (j : Int) = (r : Int) by omega), Bool.not_false, cond_true, hg, Option.bind_some, a5]
        refine Ok.some_iff.2 ⟨?_, ?_⟩
        · rcases prL_pf hp j hj with h3 | ⟨h3, h4⟩
          · left
            refine ⟨h3, fun h => ?_⟩
            rcases Sub.step_iff.1 (h2.1 h) with h5 | ⟨p, h5, _⟩
            · exact e h5
            · have := h5.2; omega
          · right
            obtain ⟨p, hpp⟩ : ∃ p : Nat, prL l j = (p : Int) := ⟨(prL l j).toNat, by omega⟩
            refine ⟨p, hpp, by omega, h2.trans ?_⟩
            rw [Sub.step_iff]
            constructor
            · rintro (h5 | ⟨p', h5, h6⟩)
              · exact absurd h5 e
              · have := h5.2
                obtain rfl : p' = p := by omega
                exact h6
            · exact fun h => .inr ⟨p, ⟨hj, hpp⟩, h⟩
        · show (if prL l j < 0 then 0 else l.length + 1 - (prL l j).toNat) < (if (j : Int) < 0 then 0 else l.length + 1 - (j : Int).toNat)
          rw [if_neg (show ¬ (j : Int) < 0 by omega)]
          have := prL_pf hp j hj
          split <;> omega
  · rintro ⟨q, ⟨⟩⟩ hq
    refine Ok.some_iff.2 ?_
    refine congrArg (fun a => (a, ())) ?_
    by_cases h : Sub l.length (prL l) i r
    · have := hq.2 h
      dsimp only at this
      rw [decT h, this]; simp
    · have : ¬ q = (r : Int) := fun e => h (hq.1 e)
      rw [decF h]; simpa using this
end
def amF (ld : Nat → Int) : Nat → Nat
  | 0 => 0
  | k + 1 => if ld k < ld (amF ld k) then k else amF ld k
theorem amF_le (ld : Nat → Int) : ∀ k, amF ld k ≤ k - 1
  | 0 => Nat.le_refl _
  | k + 1 => by
      have := amF_le ld k
      unfold amF
      split <;> omega
theorem amF_lt (ld : Nat → Int) {k : Nat} (h : 0 < k) : amF ld k < k := by have := amF_le ld k; omega
noncomputable def asS (l : List FrT) (w : Nat) (st : (Nat → Int) × (Nat → Int)) (i : Nat) : (Nat → Int) × (Nat → Int) :=
  (giF l st.1 i (amF st.2 w : Int), upd st.2 (amF st.2 w) (IntKind.i64.wrap (st.2 (amF st.2 w) + (sbN l i : Int))))
open Classical in
noncomputable def hvN (l : List FrT) (i : Nat) : Nat := if h : ∃ c, BestQ l (fun c => c ∈ kdN l i) c then h.choose else 0
theorem hvN_eq {l : List FrT} {i c : Nat} (h : BestQ l (fun c => c ∈ kdN l i) c) : hvN l i = c := by
  unfold hvN
  rw [dif_pos ⟨c, h⟩]
  exact (Exists.choose_spec (p := fun c => BestQ l (fun c => c ∈ kdN l i) c) ⟨c, h⟩).uniq h
noncomputable def asT (l : List FrT) (st : (Nat → Int) × (Nat → Int)) (i : Nat) : (Nat → Int) × (Nat → Int) :=
  (upd st.1 i (st.1 (hvN l i)), upd st.2 (st.1 (hvN l i)).toNat (IntKind.i64.wrap (st.2 (st.1 (hvN l i)).toNat + (wkN l i : Int))))
def OwO (w : Nat) (own : Nat → Int) : Prop := ∀ j, 0 ≤ own j ∧ own j < (w : Int)
theorem asS_own {l : List FrT} {w : Nat} (hw : 0 < w) {st : (Nat → Int) × (Nat → Int)} {i : Nat} (h : OwO w st.1) : OwO w (asS l w st i).1 := fun j => by
  show 0 ≤ giF l st.1 i (amF st.2 w : Int) j ∧ giF l st.1 i (amF st.2 w : Int) j < (w : Int)
  unfold giF
  have := amF_lt st.2 hw
  split
  · omega
  · exact h j
theorem asT_own {l : List FrT} {w : Nat} {st : (Nat → Int) × (Nat → Int)} {i : Nat} (h : OwO w st.1) : OwO w (asT l st i).1 := fun j => by
  show 0 ≤ upd st.1 i (st.1 (hvN l i)) j ∧ upd st.1 i (st.1 (hvN l i)) j < (w : Int)
  unfold upd
  split
  · exact h _
  · exact h j
noncomputable def spS (l : List FrT) (w : Nat) (R : List Nat) : (Nat → Int) × (Nat → Int) := R.foldl (asS l w) (fun _ => 0, fun _ => 0)
noncomputable def spT (l : List FrT) (w : Nat) (R T : List Nat) : (Nat → Int) × (Nat → Int) := T.foldl (asT l) (spS l w R)
theorem spS_succ {l : List FrT} {w : Nat} {R : List Nat} {k : Nat} (h : k < R.length) : spS l w (R.take (k + 1)) = asS l w (spS l w (R.take k)) R[k] := by
  unfold spS; rw [← take_snoc h, List.foldl_append]; rfl
theorem spT_succ {l : List FrT} {w : Nat} {R T : List Nat} {k : Nat} (h : k < T.length) : spT l w R (T.take (k + 1)) = asT l (spT l w R (T.take k)) T[k] := by
  unfold spT; rw [← take_snoc h, List.foldl_append]; rfl
theorem foldl_own {α : Type} {w : Nat} {g : (Nat → Int) × (Nat → Int) → α → (Nat → Int) × (Nat → Int)} (hg : ∀ st a, OwO w st.1 → OwO w (g st a).1) : ∀ (L : List α) st, OwO w st.1 → OwO w (L.foldl g st).1
  | [], _, h => h
  | a :: L, st, h => foldl_own hg L (g st a) (hg st a h)
theorem spS_own {l : List FrT} {w : Nat} (hw : 0 < w) (R : List Nat) : OwO w (spS l w R).1 := foldl_own (fun _ _ h => asS_own hw h) R _ (fun _ => ⟨by show (0 : Int) ≤ 0; omega, by show (0 : Int) < w; omega⟩)
theorem spT_own {l : List FrT} {w : Nat} (hw : 0 < w) (R T : List Nat) : OwO w (spT l w R T).1 := foldl_own (fun _ _ h => asT_own h) T _ (spS_own hw R)
end Go.Fw
end

section
namespace Go.Fw
set_option linter.unusedSimpArgs false
set_option linter.unusedVariables false
open Go
noncomputable def fnD (l : List FrT) (w : Nat) : List Nat × List Nat := open Classical in if h : ∃ K, (∀ k, k < K → nxD l (2 * w) (itD l (2 * w) k) ≠ none) ∧ nxD l (2 * w) (itD l (2 * w) K) = none then itD l (2 * w) h.choose else ([], [])
noncomputable def rtS (l : List FrT) (w : Nat) : List Nat := srD l (fnD l w).1
noncomputable def tpS (l : List FrT) (w : Nat) : List Nat := asD (fnD l w).2
section
variable {l : List FrT} (hp : Prp l)
include hp
theorem fnD_is (w : Nat) : ∃ K, (∀ k, k < K → nxD l (2 * w) (itD l (2 * w) k) ≠ none) ∧ nxD l (2 * w) (itD l (2 * w) K) = none ∧ fnD l w = itD l (2 * w) K := by
  obtain ⟨K, _, h1, h2⟩ := itD_end hp (2 * w)
  have h : ∃ K, (∀ k, k < K → nxD l (2 * w) (itD l (2 * w) k) ≠ none) ∧ nxD l (2 * w) (itD l (2 * w) K) = none := ⟨K, h1, h2⟩
  refine ⟨h.choose, h.choose_spec.1, h.choose_spec.2, ?_⟩
  unfold fnD
  rw [dif_pos h]
theorem fnD_inv (w : Nat) : InvD l (fnD l w).1 (fnD l w).2 := by
  obtain ⟨K, _, _, h⟩ := fnD_is hp w
  rw [h]
  exact itD_inv hp (2 * w) K
theorem divide_fin {w : Nat} (hw : w ≤ 8) : d_plan_divide (l, fT l.length (fun i => (sbN l i : Int)), (w : Int), ()) = some (dvV l (rtS l w) (tpS l w), ()) := by
  obtain ⟨K, h1, h2, h3⟩ := fnD_is hp w
  unfold rtS tpS
  rw [h3]
  exact divide_eq hp hw h1 h2
theorem rtS_mem (w x : Nat) : x ∈ rtS l w ↔ x ∈ (fnD l w).1 := (srD_perm l _).mem_iff
theorem tpS_mem (w x : Nat) : x ∈ tpS l w ↔ x ∈ (fnD l w).2 := (asD_perm _).mem_iff
theorem rtS_lt {w x : Nat} (h : x ∈ rtS l w) : x < l.length := (fnD_inv hp w).slt x ((rtS_mem hp w x).1 h)
theorem tpS_lt {w x : Nat} (h : x ∈ tpS l w) : x < l.length ∧ kdN l x ≠ [] := (fnD_inv hp w).tlt x ((tpS_mem hp w x).1 h)
theorem rtS_nodup (w : Nat) : (rtS l w).Nodup := (srD_perm l _).nodup_iff.2 (fnD_inv hp w).sn
theorem tpS_nodup (w : Nat) : (tpS l w).Nodup := (asD_perm _).nodup_iff.2 (fnD_inv hp w).tn
theorem rtS_len (w : Nat) : (rtS l w).length ≤ l.length := nodup_le (rtS_nodup hp w) fun x hx => rtS_lt hp hx
theorem tpS_len (w : Nat) : (tpS l w).length ≤ l.length := nodup_le (tpS_nodup hp w) fun x hx => (tpS_lt hp hx).1
theorem Roots_fin (hr : ∀ x ∈ l, InR x) {w : Nat} (hw : w ≤ 8) : d_sparseref32q_Roots (l, (w : Int), ()) = some (natL (rtS l w), cT l.length (fun v => v ∈ tpS l w), ()) := by
  obtain ⟨K, h1, h2, h3⟩ := fnD_is hp w
  rw [Roots_eq hp hr hw h1 h2]
  have e : cT l.length (fun v => v ∈ tpS l w) = cT l.length (fun v => v ∈ (itD l (2 * w) K).2) := cT_congr fun v _ => by rw [tpS_mem hp, h3]
  rw [e]
  unfold rtS
  rw [h3]
theorem hvN_is {i : Nat} (hi : kdN l i ≠ []) : BestQ l (fun c => c ∈ kdN l i) (hvN l i) := by
  have key : ∀ L : List Nat, L ≠ [] → ∃ c, BestQ l (fun c => c ∈ L) c := by
    intro L
    induction L with
    | nil => intro h; exact absurd rfl h
    | cons a L ih =>
      intro _
      by_cases h : L = []
      · subst h
        exact ⟨a, BestQ.first (P := fun c => c ∈ ([] : List Nat)) (fun j h => by simp at h) (fun j => by simp)⟩
      · obtain ⟨c, hc⟩ := ih h
        by_cases hb : bfN l a c
        · exact ⟨a, hc.better hb fun j => by rw [List.mem_cons]; exact or_comm⟩
        · exact ⟨c, hc.keep hb fun j => by rw [List.mem_cons]; exact or_comm⟩
  obtain ⟨c, hc⟩ := key _ hi
  rw [hvN_eq hc]
  exact hc
end
abbrev PlD : Type := List Int × (List Int × Unit)
noncomputable def plV (l : List FrT) (w : Nat) : PlD := (fT l.length (spT l w (rtS l w) (tpS l w)).1, (fT w (spT l w (rtS l w) (tpS l w)).2, ()))
section
variable {l : List FrT} (hp : Prp l) (hr : ∀ x ∈ l, InR x)
include hp hr
theorem Split_bad {w : Int} (hw : w < 1 ∨ w > 8) : d_plan_Split (l, w, ()) = some (([], [], ()), 331, ()) := by
  unfold d_plan_Split
  simp only [Work_eq hp hr, Option.bind_some, bneI, decide_true, Bool.not_true, cond_false, cond_dec_beqF]
  by_cases h1 : w < 1
  · rw [if_pos h1]; rfl
  · rw [if_neg h1, decT (show w > 8 by omega)]; rfl
theorem refSplit_bad {w : Int} (hw : w < 1 ∨ w > 8) : d_sparseref32q_Split (l, w, ()) = some (([], [], ()), 331, ()) := by
  unfold d_sparseref32q_Split
  simp only [refSubtrees_eq hp hr, Option.bind_some, bneI, decide_true, Bool.not_true, cond_false, cond_dec_beqF]
  by_cases h1 : w < 1
  · rw [if_pos h1]; rfl
  · rw [if_neg h1, decT (show w > 8 by omega)]; rfl
theorem Split_eq {w : Nat} (hw1 : 1 ≤ w) (hw : w ≤ 8) : d_plan_Split (l, (w : Int), ()) = some (plV l w, 0, ()) := by
  have hn := hp.1
  have hRl := rtS_len hp w
  have hTl := tpS_len hp w
  unfold d_plan_Split
  simp only [Work_eq hp hr, Option.bind_some, bneI, decide_true, Bool.not_true, cond_false, cond_dec_beqF]
  rw [if_neg (show ¬ (w : Int) < 1 by omega), decF (show ¬ (w : Int) > 8 by omega)]
  simp (disch := omega) only [Option.bind_some, cond_false, Subtrees_eq hp hr, divide_fin hp hw, madeO_ok, fT_replicate]
  refine bindR (([], ([], ())), dvV l (rtS l w) (tpS l w), (fT l.length (spS l w (rtS l w)).1, (fT w (spS l w (rtS l w)).2, ())), ()) ?_ (loop_for (rtS l w).length (fun k => (([], ([], ())), dvV l (rtS l w) (tpS l w), (fT l.length (spS l w ((rtS l w).take k)).1, (fT w (spS l w ((rtS l w).take k)).2, ())), ())) 0 rfl ?_ (Nat.zero_le _) ?_ ?_)
  rotate_left
  · rfl
  · intro k _ hk
    have hlt := rtS_lt hp (List.getElem_mem hk)
    have eS : (dvV l (rtS l w) (tpS l w)).2.2.2.1 = natL (rtS l w) := rfl
    have eat : (atO (natL (rtS l w)) k fun e47 => some e47) = some (((rtS l w)[k] : Nat) : Int) := atO_some (by simp [natL, hk])
    have gs : getI (fT l.length (fun i => (sbN l i : Int))) (((rtS l w)[k] : Nat) : Int) = some (sbN l (rtS l w)[k] : Int) := getN_some (fT_get hlt)
    rw [spS_succ hk]
    generalize hst : spS l w ((rtS l w).take k) = st
    simp (disch := first | omega | (rw [natL_length]; omega)) only [cond_dec, eS, natL_length, if_pos, idxN_nat, Option.bind_some, eat]
    refine bindR ((amF st.2 w : Int), ([], ([], ())), dvV l (rtS l w) (tpS l w), (fT l.length st.1, (fT w st.2, ())), ()) ?_ (loop_seq w (fun v => ((amF st.2 v : Int), (v : Int), ([], ([], ())), dvV l (rtS l w) (tpS l w), (fT l.length st.1, (fT w st.2, ())), ())) 0 rfl (Nat.zero_le _) ?_ ?_)
    · have ha := amF_lt st.2 (k := w) (by omega)
      simp only [give_eq hp hlt, Option.bind_some]
      simp (disch := omega) only [fT_length, idxN_nat, Option.bind_some, atO_fT, gs, Option.map_some, fT_set, wrap_inc]
      rfl
    · intro v _ hv
      have ha : amF st.2 v < w := by have := amF_le st.2 v; omega
      simp (disch := omega) only [fT_length, if_pos, idxN_nat, Option.bind_some, atO_fT, wrap_inc]
      rw [show amF st.2 (v + 1) = if st.2 v < st.2 (amF st.2 v) then v else amF st.2 v from rfl]
      by_cases hc : st.2 v < st.2 (amF st.2 v)
      · rw [if_pos hc, if_pos hc]; rfl
      · rw [if_neg hc, if_neg hc]; rfl
    · simp (disch := omega) only [fT_length, if_neg]
  · have eS : (dvV l (rtS l w) (tpS l w)).2.2.2.1 = natL (rtS l w) := rfl
    simp (disch := omega) only [cond_dec, eS, natL_length, if_neg, List.take_length]
  refine bindR (([], ([], ())), plV l w, ()) rfl (loop_for (tpS l w).length (fun k => (([], ([], ())), dvV l (rtS l w) (tpS l w), (fT l.length (spT l w (rtS l w) ((tpS l w).take k)).1, (fT w (spT l w (rtS l w) ((tpS l w).take k)).2, ())), ())) 0 rfl rfl (Nat.zero_le _) ?_ ?_)
  · intro k _ hk
    obtain ⟨hlt, hne⟩ := tpS_lt hp (List.getElem_mem hk)
    have hbest := hvN_is hp hne
    have eT : (dvV l (rtS l w) (tpS l w)).2.2.2.2.1 = natL (tpS l w) := rfl
    have eC : (dvV l (rtS l w) (tpS l w)).2.2.1 = fT l.length (kidsV (prL l) l.length) := rfl
    have eat : (atO (natL (tpS l w)) k fun e47 => some e47) = some (((tpS l w)[k] : Nat) : Int) := atO_some (by simp [natL, hk])
    have hown := spT_own (l := l) hw1 (rtS l w) ((tpS l w).take k)
    rw [spT_succ hk]
    generalize hst : spT l w (rtS l w) ((tpS l w).take k) = st at hown ⊢
    generalize hi : (tpS l w)[k] = i at *
    have hkp : 0 < (kdN l i).length := List.length_pos_iff.2 hne
    have hkl := kdN_len l i
    have gw : getI (fT l.length (fun i => (wkN l i : Int))) (i : Int) = some (wkN l i : Int) := getN_some (fT_get hlt)
    have hkid : ∀ c ∈ kdN l i, c < l.length := fun c hc => (mem_kdN.1 hc).1
    have e0 : (atO (kidsV (prL l) l.length i) 0 fun e94 => some e94) = some (((kdN l i)[0] : Nat) : Int) := by
      rw [kdN_nat]; exact atO_some (by simp [natL, hkp])
    have i0 : idxN (kidsV (prL l) l.length i).length (0 : Int) = some 0 := by rw [kdN_nat, natL_length]; exact idxN_nat (i := 0) hkp
    simp (disch := first | omega | (rw [natL_length]; omega)) only [cond_dec, eT, eC, natL_length, if_pos, idxN_nat, fT_length, Option.bind_some, eat, atO_fT, i0, e0]
    rw [← Ok.eq_iff]
    refine Ok.bind_of (P := fun r => r = ((hvN l i : Int), ([], ([], ())), dvV l (rtS l w) (tpS l w), (fT l.length st.1, (fT w st.2, ())), ())) ?_ ?_
    · refine Ok.seq (kdN l i).length (fun s q => ∃ c : Nat, q = ((c : Int), i, (s : Int), ([], ([], ())), dvV l (rtS l w) (tpS l w), (fT l.length st.1, (fT w st.2, ())), ()) ∧ c < l.length ∧ BestQ l (fun j => j = (kdN l i)[0] ∨ j ∈ (kdN l i).take s) c) 0 ⟨_, rfl, hkid _ (List.getElem_mem hkp), BestQ.first (P := fun _ => False) (fun j h => h) (fun j => by simp)⟩ (Nat.zero_le _) ?_ ?_
      · rintro s _ _ hs ⟨c, rfl, hcl, hc⟩
        have hsl := hkid _ (List.getElem_mem hs)
        have es : (atO (kidsV (prL l) l.length i) s fun e94 => some e94) = some (((kdN l i)[s] : Nat) : Int) := by
          rw [kdN_nat]; exact atO_some (by simp [natL, hs])
        have is : idxN (kdN l i).length (s : Int) = some s := idxN_nat hs
        have hlen : (kidsV (prL l) l.length i).length = (kdN l i).length := by rw [kdN_nat, natL_length]
        have e : ∀ j, (j = (kdN l i)[0] ∨ j ∈ (kdN l i).take (s + 1)) ↔ ((j = (kdN l i)[0] ∨ j ∈ (kdN l i).take s) ∨ j = (kdN l i)[s]) := fun j => by
          rw [← take_snoc hs, List.mem_append, List.mem_singleton, or_assoc]
        simp (disch := omega) only [hlen, if_pos, eC, atO_fT, Option.bind_some, is, es, before_eq hp hsl hcl, cond_dec]
        by_cases hb : bfN l (kdN l i)[s] c
        · simp (disch := omega) only [if_pos hb, Option.bind_some, wrap_inc]
          exact Ok.some_iff.2 ⟨_, rfl, hsl, hc.better hb e⟩
        · simp (disch := omega) only [if_neg hb, Option.bind_some, wrap_inc]
          exact Ok.some_iff.2 ⟨_, rfl, hcl, hc.keep hb e⟩
      · rintro _ ⟨c, rfl, hcl, hc⟩
        have hlen : (kidsV (prL l) l.length i).length = (kdN l i).length := by rw [kdN_nat, natL_length]
        simp (disch := omega) only [hlen, if_neg]
        have : hvN l i = c := hvN_eq (hc.congr fun j => by
          rw [List.take_length]
          exact ⟨.inr, fun h => h.elim (fun h => h ▸ List.getElem_mem hkp) id⟩)
        rw [this]
        exact Ok.some_iff.2 rfl
    · rintro _ rfl
      have hhl : hvN l i < l.length := hkid _ hbest.1
      obtain ⟨o1, o2⟩ := hown (hvN l i)
      obtain ⟨v, hv⟩ : ∃ v : Nat, st.1 (hvN l i) = (v : Int) := ⟨(st.1 (hvN l i)).toNat, by omega⟩
      have hvw : v < w := by omega
      simp (disch := omega) only [fT_length, idxN_nat, Option.bind_some, atO_fT, Option.map_some, fT_set, upd_same, hv, gw, wrap_inc]
      refine Ok.some_iff.2 ?_
      unfold asT
      rw [hv, Int.toNat_natCast]
  · have eT : (dvV l (rtS l w) (tpS l w)).2.2.2.2.1 = natL (tpS l w) := rfl
    simp (disch := omega) only [cond_dec, eT, natL_length, if_neg, List.take_length]
    rfl
end
end Go.Fw
end

section
namespace Go.Fw
set_option linter.unusedSimpArgs false
set_option linter.unusedVariables false
open Go
open Classical in
noncomputable def tqS (l : List FrT) (w i : Nat) : List Nat := (List.range i).filter fun v => decide (v ∈ tpS l w)
theorem tqS_succ (l : List FrT) (w i : Nat) : tqS l w (i + 1) = tqS l w i ++ (open Classical in if i ∈ tpS l w then [i] else []) := by
  classical
  unfold tqS
  rw [List.range_succ, List.filter_append]
  by_cases h : i ∈ tpS l w <;> simp [h]
theorem tqS_all {l : List FrT} (hp : Prp l) (w : Nat) : tqS l w l.length = tpS l w := by
  classical
  refine pw_ext (R := (· < ·)) (fun a b h => by omega) ?_ (asD_sorted (fnD_inv hp w).tn) fun x => ?_
  · unfold tqS
    exact List.Pairwise.filter _ List.pairwise_lt_range
  · unfold tqS
    rw [List.mem_filter, List.mem_range, decide_eq_true_eq]
    exact ⟨fun h => h.2, fun h => ⟨(tpS_lt hp h).1, h⟩⟩
section
variable {l : List FrT} (hp : Prp l) (hr : ∀ x ∈ l, InR x)
include hp hr
theorem refSplit_eq {w : Nat} (hw1 : 1 ≤ w) (hw : w ≤ 8) : d_sparseref32q_Split (l, (w : Int), ()) = some (plV l w, 0, ()) := by
  classical
  have hn := hp.1
  have hRl := rtS_len hp w
  have hTl := tpS_len hp w
  unfold d_sparseref32q_Split
  simp only [refSubtrees_eq hp hr, Option.bind_some, bneI, decide_true, Bool.not_true, cond_false, cond_dec_beqF]
  rw [if_neg (show ¬ (w : Int) < 1 by omega), decF (show ¬ (w : Int) > 8 by omega)]
  simp (disch := omega) only [Option.bind_some, cond_false, refWork_eq hp hr, Roots_fin hp hr hw, madeO_ok, fT_replicate]
  refine bindR (([], ([], ())), (fT l.length (spS l w (rtS l w)).1, (fT w (spS l w (rtS l w)).2, ())), ()) ?_ (loop_for (rtS l w).length (fun k => (([], ([], ())), (fT l.length (spS l w ((rtS l w).take k)).1, (fT w (spS l w ((rtS l w).take k)).2, ())), ())) 0 rfl ?_ (Nat.zero_le _) ?_ ?_)
  rotate_left
  · rfl
  · intro k _ hk
    have hlt := rtS_lt hp (List.getElem_mem hk)
    have gr : getI (natL (rtS l w)) (k : Int) = some (((rtS l w)[k] : Nat) : Int) := nat_get hk
    have gs : getI (fT l.length (fun i => (sbN l i : Int))) (((rtS l w)[k] : Nat) : Int) = some (sbN l (rtS l w)[k] : Int) := getN_some (fT_get hlt)
    rw [spS_succ hk]
    generalize hst : spS l w ((rtS l w).take k) = st
    simp (disch := omega) only [cond_dec, natL_length, if_pos, gr, Option.bind_some, gs]
    refine bindR ((amF st.2 w : Int), ([], ([], ())), (fT l.length st.1, (fT w st.2, ())), ()) ?_ (loop_seq w (fun v => ((amF st.2 v : Int), (v : Int), ([], ([], ())), (fT l.length st.1, (fT w st.2, ())), ())) 1 ?_ hw1 ?_ ?_)
    · have ha := amF_lt st.2 (k := w) (by omega)
      simp (disch := omega) only [fT_length, idxN_nat, Option.bind_some, atO_fT, Option.map_some, fT_set]
      refine bindR (([], ([], ())), (fT l.length (giF l st.1 (rtS l w)[k] (amF st.2 w : Int)), (fT w (asS l w st (rtS l w)[k]).2, ())), ()) ?_ (loop_for l.length (fun i => (([], ([], ())), (fT l.length (fun j => if j < i ∧ Sub l.length (prL l) j (rtS l w)[k] then (amF st.2 w : Int) else st.1 j), (fT w (asS l w st (rtS l w)[k]).2, ())), ())) 0 rfl ?_ (Nat.zero_le _) ?_ ?_)
      · simp (disch := omega) only [wrap_inc]
        rfl
      · refine congrArg (fun a => (([], ([], ())), (a, (fT w (asS l w st (rtS l w)[k]).2, ())), ())) (fT_congr fun j _ => ?_)
        rw [if_neg (by omega)]
      · intro i _ hi
        simp (disch := omega) only [if_pos, leads_eq hp hi hlt, Option.bind_some]
        by_cases hs : Sub l.length (prL l) i (rtS l w)[k]
        · simp (disch := omega) only [cond_dec, if_pos hs, fT_length, idxN_nat, Option.bind_some, atO_fT, Option.map_some, fT_set, wrap_inc]
          refine congrArg (fun a => some (Sum.inl (((i + 1 : Nat) : Int), ([], ([], ())), (a, (fT w (asS l w st (rtS l w)[k]).2, ())), ()))) (fT_congr fun j _ => ?_)
          unfold upd
          by_cases e : j = i
          · subst e; rw [if_pos rfl, if_pos ⟨by omega, hs⟩]
          · rw [if_neg e]
            exact ifcg ⟨fun h => ⟨by omega, h.2⟩, fun h => ⟨by omega, h.2⟩⟩
        · simp (disch := omega) only [cond_dec, if_neg hs, Option.bind_some, wrap_inc]
          refine congrArg (fun a => some (Sum.inl (((i + 1 : Nat) : Int), ([], ([], ())), (a, (fT w (asS l w st (rtS l w)[k]).2, ())), ()))) (fT_congr fun j _ => ?_)
          refine ifcg ⟨fun h => ⟨by omega, h.2⟩, fun h => ⟨?_, h.2⟩⟩
          have : j ≠ i := fun e => hs (e ▸ h.2)
          omega
      · simp (disch := omega) only [if_neg]
        refine congrArg (fun a => some (Sum.inr (([], ([], ())), (a, (fT w (asS l w st (rtS l w)[k]).2, ())), ()))) (fT_congr fun j hj => ?_)
        unfold giF
        exact ifcg ⟨fun h => h.2, fun h => ⟨hj, h⟩⟩
    · show ((0 : Int), (1 : Int), _) = (((if st.2 0 < st.2 0 then 0 else 0 : Nat) : Int), ((1 : Nat) : Int), _)
      rw [if_neg (by omega)]
      rfl
    · intro v _ hv
      have ha : amF st.2 v < w := by have := amF_le st.2 v; omega
      simp (disch := omega) only [fT_length, if_pos, idxN_nat, Option.bind_some, atO_fT, wrap_inc]
      rw [show amF st.2 (v + 1) = if st.2 v < st.2 (amF st.2 v) then v else amF st.2 v from rfl]
      by_cases hc : st.2 v < st.2 (amF st.2 v)
      · rw [if_pos hc, if_pos hc]; rfl
      · rw [if_neg hc, if_neg hc]; rfl
    · simp (disch := omega) only [if_neg]
  · simp (disch := omega) only [cond_dec, natL_length, if_neg, List.take_length]
  refine bindR (([], ([], ())), plV l w, ()) rfl (loop_for l.length (fun i => (([], ([], ())), (fT l.length (spT l w (rtS l w) (tqS l w i)).1, (fT w (spT l w (rtS l w) (tqS l w i)).2, ())), ())) 0 rfl rfl (Nat.zero_le _) ?_ ?_)
  · intro i _ hi
    rw [tqS_succ]
    have hown := spT_own (l := l) hw1 (rtS l w) (tqS l w i)
    have gt : getI (cT l.length (fun v => v ∈ tpS l w)) (i : Int) = some (@decide (i ∈ tpS l w) (Classical.propDecidable _)) := getN_some (by unfold cT; exact fT_get hi)
    have gw : getI (fT l.length (fun i => (wkN l i : Int))) (i : Int) = some (wkN l i : Int) := getN_some (fT_get hi)
    simp (disch := omega) only [cond_dec, if_pos, gt, Option.bind_some, cond_not_dec]
    by_cases hit : i ∈ tpS l w
    · obtain ⟨_, hne⟩ := tpS_lt hp hit
      have hbest := hvN_is hp hne
      have hkid : ∀ c ∈ kdN l i, c < l.length := fun c hc => (mem_kdN.1 hc).1
      have eST : spT l w (rtS l w) (tqS l w i ++ [i]) = asT l (spT l w (rtS l w) (tqS l w i)) i := by
        unfold spT; rw [List.foldl_append]; rfl
      rw [if_pos hit, if_pos hit, eST]
      generalize hst : spT l w (rtS l w) (tqS l w i) = st at hown ⊢
      rw [← Ok.eq_iff]
      refine Ok.bind_of (P := fun r => r = (([], ([], ())), (fT l.length (asT l st i).1, (fT w (asT l st i).2, ())), ())) ?_ ?_
      · refine Ok.bind_of (P := fun r => r = ((hvN l i : Int), ([], ([], ())), (fT l.length st.1, (fT w st.2, ())), ())) ?_ ?_
        · refine Ok.seq i (fun c q => ∃ r : Int, q = (r, (c : Int), ([], ([], ())), (fT l.length st.1, (fT w st.2, ())), ()) ∧ ((r = -1 ∧ ∀ j, ¬ (j < c ∧ j ∈ kdN l i)) ∨ ∃ b : Nat, r = (b : Int) ∧ BestQ l (fun j => j < c ∧ j ∈ kdN l i) b)) 0 ⟨-1, rfl, .inl ⟨rfl, fun j h => by omega⟩⟩ (Nat.zero_le _) ?_ ?_
          · rintro c _ _ hc ⟨r, rfl, hI⟩
            have hcl : c < l.length := by omega
            have hg : getI l (c : Int) = some l[c] := getN_some (List.getElem?_eq_getElem hcl)
            have a5 := (hp.at hcl).2.2.2.2
            have gc : getI (fT l.length (fun i => (sbN l i : Int))) (c : Int) = some (sbN l c : Int) := getN_some (fT_get hcl)
            simp (disch := omega) only [if_pos, hg, Option.bind_some, a5]
            by_cases hk : c ∈ kdN l i
            · have e : ∀ j, (j < c + 1 ∧ j ∈ kdN l i) ↔ ((j < c ∧ j ∈ kdN l i) ∨ j = c) := fun j => ⟨fun h => by by_cases ej : j = c; exact .inr ej; exact .inl ⟨by omega, h.2⟩, fun h => by rcases h with h | rfl; exact ⟨by omega, h.2⟩; exact ⟨by omega, hk⟩⟩
              rw [(mem_kdN.1 hk).2]
              simp only [beq_self_eq_true, cond_true, cond_dec_beqF]
              rcases hI with ⟨rfl, h2⟩ | ⟨b, rfl, h3⟩
              · simp (disch := omega) only [if_pos, Option.bind_some, cond_true, wrap_inc]
                exact Ok.some_iff.2 ⟨(c : Int), rfl, .inr ⟨c, rfl, BestQ.first h2 e⟩⟩
              · have hbl : b < l.length := by have := h3.1.1; omega
                have gb : getI (fT l.length (fun i => (sbN l i : Int))) (b : Int) = some (sbN l b : Int) := getN_some (fT_get hbl)
                simp (disch := omega) only [if_neg, gc, gb, Option.bind_some, cond_dec]
                have hnew := bf_new (l := l) h3.1.1
                by_cases hcc : (sbN l c : Int) > (sbN l b : Int)
                · rw [if_pos hcc]
                  simp (disch := omega) only [Option.bind_some, wrap_inc]
                  exact Ok.some_iff.2 ⟨(c : Int), rfl, .inr ⟨c, rfl, h3.better (hnew.2 (by omega)) e⟩⟩
                · rw [if_neg hcc]
                  simp (disch := omega) only [Option.bind_some, wrap_inc]
                  exact Ok.some_iff.2 ⟨(b : Int), rfl, .inr ⟨b, rfl, h3.keep (fun h => hcc (by have := hnew.1 h; omega)) e⟩⟩
            · have e : ∀ j, (j < c + 1 ∧ j ∈ kdN l i) ↔ (j < c ∧ j ∈ kdN l i) := fun j => ⟨fun h => by by_cases ej : j = c; (subst ej; exact absurd h.2 hk); exact ⟨by omega, h.2⟩, fun h => ⟨by omega, h.2⟩⟩
              have hne2 : (prL l c == (i : Int)) = false := by
                simp only [beq_eq_false_iff_ne, ne_eq]
                exact fun h => hk (mem_kdN.2 ⟨hcl, h⟩)
              rw [hne2]
              simp (disch := omega) only [Bool.false_eq_true, beq_iff_eq, Option.bind_some, cond_false, wrap_inc, Bool.false_beq, Bool.not_true]
              refine Ok.some_iff.2 ⟨r, rfl, ?_⟩
              rcases hI with ⟨h1, h2⟩ | ⟨b, h1, h3⟩
              · exact .inl ⟨h1, fun j h => h2 j ((e j).1 h)⟩
              · exact .inr ⟨b, h1, h3.congr e⟩
          · rintro _ ⟨r, rfl, hI⟩
            simp (disch := omega) only [if_neg]
            have e : ∀ j, j ∈ kdN l i ↔ (j < i ∧ j ∈ kdN l i) := fun j => ⟨fun h => ⟨by
              obtain ⟨h1, h2⟩ := mem_kdN.1 h
              have := prL_pf hp j h1
              omega, h⟩, fun h => h.2⟩
            rcases hI with ⟨h1, h2⟩ | ⟨b, h1, h3⟩
            · exact absurd ((e _).1 hbest.1) (h2 _)
            · have : hvN l i = b := hvN_eq (h3.congr e)
              subst h1 this
              exact Ok.some_iff.2 rfl
        · rintro _ rfl
          have hhl : hvN l i < l.length := hkid _ hbest.1
          obtain ⟨o1, o2⟩ := hown (hvN l i)
          obtain ⟨v, hv⟩ : ∃ v : Nat, st.1 (hvN l i) = (v : Int) := ⟨(st.1 (hvN l i)).toNat, by omega⟩
          have hvw : v < w := by omega
          simp (disch := omega) only [fT_length, idxN_nat, Option.bind_some, atO_fT, Option.map_some, fT_set, upd_same, hv, gw]
          refine Ok.some_iff.2 ?_
          unfold asT
          rw [hv, Int.toNat_natCast]
      · rintro _ rfl
        simp (disch := omega) only [wrap_inc]
        exact Ok.some_iff.2 rfl
    · rw [if_neg hit, if_neg hit, List.append_nil]
      simp (disch := omega) only [Option.bind_some, wrap_inc]
  · simp (disch := omega) only [cond_dec, if_neg]
    rw [tqS_all hp]
    rfl
end
end Go.Fw
end

section
namespace Go.Fw
set_option linter.unusedSimpArgs false
set_option linter.unusedVariables false
open Go
theorem same_refl {p : PlD} (h1 : p.1.length ≤ 4000) (h2 : p.2.1.length ≤ 4000) : d_sparselaw32q_same (p, p, ()) = some (true, ()) := by
  unfold d_sparselaw32q_same
  simp only
  rw [Ints_eq _ _ (by omega)]
  simp only [Option.bind_some, decide_true, beq_self_eq_true, cond_true]
  rw [Ints_eq _ _ (by omega)]
  simp
theorem splits_any {l : List FrT} (hp : Prp l) (hr : ∀ x ∈ l, InR x) (w : Int) : ∃ p e, d_plan_Split (l, w, ()) = some (p, e, ()) ∧ d_sparseref32q_Split (l, w, ()) = some (p, e, ()) ∧ d_sparselaw32q_same (p, p, ()) = some (true, ()) := by
  have hn := hp.1
  by_cases h : w < 1 ∨ w > 8
  · exact ⟨_, _, Split_bad hp hr h, refSplit_bad hp hr h, same_refl (by simp) (by simp)⟩
  · obtain ⟨k, rfl⟩ : ∃ k : Nat, w = (k : Int) := ⟨w.toNat, by omega⟩
    refine ⟨_, _, Split_eq hp hr (by omega) (by omega), refSplit_eq hp hr (by omega) (by omega), same_refl ?_ ?_⟩
    · show (fT l.length _).length ≤ 4000
      rw [fT_length]; omega
    · show (fT k _).length ≤ 4000
      rw [fT_length]; omega
end Go.Fw
end

section
namespace Go.Fw
set_option linter.unusedSimpArgs false
set_option linter.unusedVariables false
open Go
section
variable {l : List FrT} (hr : ∀ x ∈ l, InR x) (hc : ∀ x ∈ l, x.2.2.1.length < 4611686018427387904)
include hr hc
theorem Work_bad (hp : ¬ Prp l) : d_plan_Work (l, ()) = some ([], 211, ()) := by
  unfold d_plan_Work
  simp only [proper32_eq hr hc, if_neg hp, Option.bind_some]
  rfl
theorem refWork_bad (hp : ¬ Prp l) : d_sparseref32q_Work (l, ()) = some ([], 211, ()) := by
  unfold d_sparseref32q_Work
  simp only [refProper32_eq hr hc, Option.bind_some, cond_not_dec, if_neg hp]
theorem Subtrees_bad (hp : ¬ Prp l) : d_plan_Subtrees (l, ()) = some ([], 211, ()) := by
  unfold d_plan_Subtrees
  simp only [Work_bad hr hc hp, Option.bind_some]
  rfl
theorem refSubtrees_bad (hp : ¬ Prp l) : d_sparseref32q_Subtrees (l, ()) = some ([], 211, ()) := by
  unfold d_sparseref32q_Subtrees
  simp only [refWork_bad hr hc hp, Option.bind_some]
  refine bindR ([], ()) rfl (loop_for 0 (fun _ => ([], ())) 0 rfl rfl (Nat.le_refl _) (fun i _ h => by omega) rfl)
theorem Split_bad2 (hp : ¬ Prp l) (w : Int) : d_plan_Split (l, w, ()) = some (([], [], ()), 211, ()) := by
  unfold d_plan_Split
  simp only [Work_bad hr hc hp, Option.bind_some]
  rfl
theorem refSplit_bad2 (hp : ¬ Prp l) (w : Int) : d_sparseref32q_Split (l, w, ()) = some (([], [], ()), 211, ()) := by
  unfold d_sparseref32q_Split
  simp only [refSubtrees_bad hr hc hp, Option.bind_some]
  rfl
theorem all32 (w : Int) : ∃ a e s f p g, d_plan_Work (l, ()) = some (a, e, ()) ∧ d_sparseref32q_Work (l, ()) = some (a, e, ()) ∧ d_plan_Subtrees (l, ()) = some (s, f, ()) ∧ d_sparseref32q_Subtrees (l, ()) = some (s, f, ()) ∧
    d_plan_Split (l, w, ()) = some (p, g, ()) ∧ d_sparseref32q_Split (l, w, ()) = some (p, g, ()) ∧ a.length ≤ 4000 ∧ s.length ≤ 4000 ∧ d_sparselaw32q_same (p, p, ()) = some (true, ()) := by
  by_cases hp : Prp l
  · obtain ⟨p, g, h1, h2, h3⟩ := splits_any hp hr w
    have hn := hp.1
    exact ⟨_, _, _, _, p, g, Work_eq hp hr, refWork_eq hp hr, Subtrees_eq hp hr, refSubtrees_eq hp hr, h1, h2, by rw [fT_length]; omega, by rw [fT_length]; omega, h3⟩
  · exact ⟨_, _, _, _, _, _, Work_bad hr hc hp, refWork_bad hr hc hp, Subtrees_bad hr hc hp, refSubtrees_bad hr hc hp, Split_bad2 hr hc hp w, refSplit_bad2 hr hc hp w, by simp, by simp, same_refl (by simp) (by simp)⟩
end
theorem wrap_rng (x : Int) : -9223372036854775808 ≤ IntKind.i64.wrap x ∧ IntKind.i64.wrap x ≤ 9223372036854775807 := by
  rw [wrap64q_eq]
  have := Int.emod_nonneg x (show (18446744073709551616 : Int) ≠ 0 by omega)
  have := Int.emod_lt_of_pos x (show (0 : Int) < 18446744073709551616 by omega)
  split <;> omega
def Spo (l : List FrT) : Prop := ∀ x ∈ l, InR x ∧ x.2.2.1.length ≤ 200
theorem Spo.set {l : List FrT} (h : Spo l) {k : Nat} {x : FrT} (hx : InR x ∧ x.2.2.1.length ≤ 200) : Spo (l.set k x) := fun y hy => by
  rcases List.mem_or_eq_of_mem_set hy with h1 | rfl
  · exact h y h1
  · exact hx
theorem PlanRefuses_true (raw : List Int) (n which what by_ workers : Int) (hl : raw.length ≤ 9223372036854775807) (h1 : -9223372036854775808 ≤ which ∧ which ≤ 9223372036854775807) (h2 : -9223372036854775808 ≤ by_ ∧ by_ ≤ 9223372036854775807) :
    d_sparselaw32q_PlanRefuses (raw, n, which, what, by_, workers, ()) = some (true, ()) := by
  have hm := modV_lt n (n := 15) (by omega)
  unfold d_sparselaw32q_PlanRefuses
  simp only [Forest32_eq raw hl n, Option.bind_some]
  generalize modV n 15 = m at hm ⊢
  have hp := fo_prp raw hm
  have hr := fo_inr raw hm
  generalize fT m (forV raw m) = l at hp hr ⊢
  have hn := hp.1
  have hS : Spo l := fun x hx => ⟨hr x hx, by obtain ⟨i, hi, rfl⟩ := List.mem_iff_getElem.1 hx; exact (hp.2 i hi).1⟩
  rw [← Ok.eq_iff]
  refine Ok.bind_of (P := fun r => Spo r.1) ?_ ?_
  · simp only [cond_dec]
    by_cases h0 : ((l.length : Nat) : Int) > 0
    · rw [if_pos h0]
      have hk := modV_lt which (n := l.length) (by omega)
      have eM := Mod_eq which (n := l.length) (by omega) (by omega)
      have e7 : d_sparsegen_Mod (by_, (7 : Int), ()) = some ((modV by_ 7 : Int), ()) := Mod_eq by_ (n := 7) (by omega) (by omega)
      have e5 : d_sparsegen_Mod (what, (5 : Int), ()) = some ((modV what 5 : Int), ()) := Mod_eq what (n := 5) (by omega) (by omega)
      generalize modV which l.length = k at hk eM
      have hat : ∀ {β : Type} (g : FrT → Option β), atO l k g = g l[k] := fun g => atO_some (List.getElem?_eq_getElem hk)
      obtain ⟨⟨⟨i1, i2⟩, i3, i4⟩, i5⟩ := hS _ (List.getElem_mem hk)
      simp (disch := omega) only [eM, e7, e5, Option.bind_some, idxN_nat, hat]
      generalize (modV what 5 : Int) = c
      cases b0 : (c == (0 : Int)) with
      | true =>
        simp only [cond_true]
        exact Ok.some_iff.2 (hS.set ⟨⟨wrap_rng _, i3, i4⟩, i5⟩)
      | false =>
      simp only [cond_false]
      cases b1 : (c == (1 : Int)) with
      | true =>
        simp only [cond_true]
        exact Ok.some_iff.2 (hS.set ⟨⟨⟨i1, i2⟩, wrap_rng _⟩, i5⟩)
      | false =>
      simp only [cond_false]
      cases b2 : (c == (2 : Int)) with
      | true =>
        simp only [cond_true]
        exact Ok.some_iff.2 (hS.set ⟨⟨⟨i1, i2⟩, i3, i4⟩, i5⟩)
      | false =>
      simp only [cond_false]
      cases b3 : (c == (3 : Int)) with
      | true =>
        have hq := modV_lt by_ (n := l[k].2.2.1.length + 1) (by omega)
        have eq := Mod_eq by_ (n := l[k].2.2.1.length + 1) (by omega) (by omega)
        simp (disch := omega) only [cond_true, wrap_inc, eq, Option.bind_some, natO_ok, leO_ok, Option.map_some]
        refine Ok.some_iff.2 (hS.set ⟨⟨⟨i1, i2⟩, i3, i4⟩, ?_⟩)
        show (List.drop 0 (List.take _ l[k].2.2.1)).length ≤ 200
        simp only [List.drop_zero, List.length_take]
        omega
      | false =>
      simp only [cond_false]
      have hk2 : k < (l.set k (by_, l[k].2)).length := by rw [List.length_set]; exact hk
      have hat2 : ∀ {β : Type} (g : FrT → Option β), atO (l.set k (by_, l[k].2)) k g = g (by_, l[k].2) := fun g => atO_some (by rw [List.getElem?_set_self hk])
      simp only [hat2, Option.bind_some]
      exact Ok.some_iff.2 ((hS.set (k := k) (x := (by_, l[k].2)) ⟨⟨h2, i3, i4⟩, i5⟩).set ⟨⟨h2, h1⟩, i5⟩)
    · rw [if_neg h0]
      exact Ok.some_iff.2 hS
  · rintro ⟨l', ⟨⟩⟩ hS'
    obtain ⟨a, e, s, f, p, g, a1, a2, a3, a4, a5, a6, a7, a8, a9⟩ := all32 (l := l') (fun x hx => (hS' x hx).1) (fun x hx => by have := (hS' x hx).2; omega) workers
    rw [Ok.eq_iff]
    simp only [a1, a2, a3, a4, a5, a6, Option.bind_some, beq_self_eq_true, cond_true]
    rw [Ints_eq _ _ (by omega)]
    simp only [Option.bind_some, decide_true, beq_self_eq_true, cond_true]
    rw [Ints_eq _ _ (by omega)]
    simp only [Option.bind_some, decide_true, beq_self_eq_true, cond_true, a9, awake32]
end Go.Fw
end
