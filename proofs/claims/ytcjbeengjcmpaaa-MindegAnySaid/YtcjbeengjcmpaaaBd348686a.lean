/-
  Parts of the proof: Ev16, Pl74, Pl75, Pl95, Pl96, Pl97, Pl98, Pl99, Pl100, Pl101, Pl102, Pl104: the framework (Fw), pure forms (Dn), plain laws (Pl, Th), calls of functions (Ok).
-/
import Derived.Test.YtcjbeengjcmpaaaB0feb8105

set_option linter.all false
section
namespace Go.Fw
noncomputable def e_graph_NewSets (n_ : Nat) : (Int × Unit) → Option ((List (List Bool)) × Unit) := fun (n_1, _) =>
 (madeO n_1 n_1).bind fun n2 =>
 (loopN (σ := (Int × (List (List Bool)) × Unit)) (ρ := ((List (List Bool)) × Unit)) (fun (s_3, s_4, _) =>
 (bif (decide (s_3 < (((((List.replicate n2 []) : (List (List Bool)))).length : Nat) : Int))) then (
 (madeO n_1 n_1).bind fun n5 =>
 (idxN (s_4).length s_3).bind fun k6 =>
 ((atO s_4 k6 fun _ => some ((s_4).set k6 (List.replicate n5 false)))).bind fun z8 =>
 some (.inl ((IntKind.i64.wrap (s_3 + ((1) : Int))), z8, ()))) else (
 some (.inr (s_4, ()))))) n_ (((0) : Int), (List.replicate n2 []), ())).bind fun (s_9, _) =>
 some (s_9, ())
set_option maxHeartbeats 4000000 in
theorem le_graph_NewSets (n_ : Nat) (a : (Int × Unit)) : Le (e_graph_NewSets n_ a) (d_graph_NewSets a) := by
 unfold e_graph_NewSets d_graph_NewSets
 repeat' (first | with_reducible exact Le.refl _  | (with_reducible refine Le.bind ?_ (fun y => ?_)) | (with_reducible refine Le.bif ?_ ?_) | (with_reducible refine Le.loop (fun s => ?_) _ _) | (with_reducible refine Le.atO (fun e => ?_)) | split)
noncomputable def e_graph_Sets_Join (n_ : Nat) : ((List (List Bool)) × Int × Int × Unit) → Option ((List (List Bool)) × Unit) := fun (s_1, v_2, w_3, _) =>
 (bif (v_2 != w_3) then (
 (idxN (s_1).length v_2).bind fun k4 =>
 (idxN (s_1).length w_3).bind fun k6 =>
 (((atO s_1 k4 fun e8 => some e8)).bind fun e9 => idxN (e9).length w_3).bind fun k10 =>
 ((atO s_1 k4 fun e11 => ((atO e11 k10 fun _ => some ((e11).set k10 true))).map fun z13 => (s_1).set k4 z13)).bind fun z14 =>
 (((atO z14 k6 fun e15 => some e15)).bind fun e16 => idxN (e16).length v_2).bind fun k17 =>
 ((atO z14 k6 fun e18 => ((atO e18 k17 fun _ => some ((e18).set k17 true))).map fun z20 => (z14).set k6 z20)).bind fun z21 =>
 some (z21, ())) else (
 some (s_1, ())))
set_option maxHeartbeats 4000000 in
theorem le_graph_Sets_Join (n_ : Nat) (a : ((List (List Bool)) × Int × Int × Unit)) : Le (e_graph_Sets_Join n_ a) (d_graph_Sets_Join a) := by
 unfold e_graph_Sets_Join d_graph_Sets_Join
 repeat' (first | with_reducible exact Le.refl _  | (with_reducible refine Le.bind ?_ (fun y => ?_)) | (with_reducible refine Le.bif ?_ ?_) | (with_reducible refine Le.loop (fun s => ?_) _ _) | (with_reducible refine Le.atO (fun e => ?_)) | split)
noncomputable def e_graph_Table (n_ : Nat) : (((List (List Int)) × Unit) × Unit) → Option ((List (List Bool)) × Unit) := fun (g_1, _) =>
 (e_graph_NewSets n_ ((((g_1.1).length : Nat) : Int), ())).bind fun (r2, _) =>
 (loopN (σ := (Int × (List (List Bool)) × Unit)) (ρ := ((List (List Bool)) × Unit)) (fun (s_3, s_4, _) =>
 (bif (decide (s_3 < (((g_1.1).length : Nat) : Int))) then (
 (getI g_1.1 s_3).bind fun y5 =>
 (loopN (σ := (Int × (List (List Bool)) × Unit)) (ρ := ((List (List Bool)) × Unit)) (fun (s_6, s_7, _) =>
 (bif (decide (s_6 < (((y5).length : Nat) : Int))) then (
 (getI y5 s_6).bind fun y8 =>
 (e_graph_Sets_Join n_ (s_7, s_3, y8, ())).bind fun (m9, _) =>
 some (.inl ((IntKind.i64.wrap (s_6 + ((1) : Int))), m9, ()))) else (
 some (.inr (s_7, ()))))) n_ (((0) : Int), s_4, ())).bind fun (s_10, _) =>
 some (.inl ((IntKind.i64.wrap (s_3 + ((1) : Int))), s_10, ()))) else (
 some (.inr (s_4, ()))))) n_ (((0) : Int), r2, ())).bind fun (s_11, _) =>
 some (s_11, ())
set_option maxHeartbeats 4000000 in
theorem le_graph_Table (n_ : Nat) (a : (((List (List Int)) × Unit) × Unit)) : Le (e_graph_Table n_ a) (d_graph_Table a) := by
 unfold e_graph_Table d_graph_Table
 repeat' (first | with_reducible exact Le.refl _ | with_reducible exact le_graph_Sets_Join _ _ | with_reducible exact le_graph_NewSets _ _ | (with_reducible refine Le.bind ?_ (fun y => ?_)) | (with_reducible refine Le.bif ?_ ?_) | (with_reducible refine Le.loop (fun s => ?_) _ _) | (with_reducible refine Le.atO (fun e => ?_)) | split)
noncomputable def e_mindeg_Start (n_ : Nat) : (((List (List Int)) × Unit) × Unit) → Option (((List (List Bool)) × ((List Bool) × Unit)) × Unit) := fun (g_1, _) =>
 (e_graph_Table n_ (g_1, ())).bind fun (r2, _) =>
 (madeO (((g_1.1).length : Nat) : Int) (((g_1.1).length : Nat) : Int)).bind fun n3 =>
 some ((r2, ((List.replicate n3 false), ())), ())
set_option maxHeartbeats 4000000 in
theorem le_mindeg_Start (n_ : Nat) (a : (((List (List Int)) × Unit) × Unit)) : Le (e_mindeg_Start n_ a) (d_mindeg_Start a) := by
 unfold e_mindeg_Start d_mindeg_Start
 repeat' (first | with_reducible exact Le.refl _ | with_reducible exact le_graph_Table _ _ | (with_reducible refine Le.bind ?_ (fun y => ?_)) | (with_reducible refine Le.bif ?_ ?_) | (with_reducible refine Le.loop (fun s => ?_) _ _) | (with_reducible refine Le.atO (fun e => ?_)) | split)
noncomputable def e_graph_Sets_List (n_ : Nat) : ((List (List Bool)) × Int × Unit) → Option ((List Int) × Unit) := fun (s_1, v_2, _) =>
 (getI s_1 v_2).bind fun y4 =>
 (loopN (σ := (Int × (List Int) × Unit)) (ρ := ((List Int) × Unit)) (fun (s_5, out_6, _) =>
 (bif (decide (s_5 < (((y4).length : Nat) : Int))) then (
 Option.bind (α := ((List Int) × Unit)) (
 (getI y4 s_5).bind fun y7 =>
 (bif y7 then (
 (limO ((out_6).length + ([s_5]).length)).bind fun _ =>
 some ((out_6 ++ [s_5]), ())) else (
 some (out_6, ())))) fun (out_8, _) =>
 some (.inl ((IntKind.i64.wrap (s_5 + ((1) : Int))), out_8, ()))) else (
 some (.inr (out_6, ()))))) n_ (((0) : Int), [], ())).bind fun (out_9, _) =>
 some (out_9, ())
set_option maxHeartbeats 4000000 in
theorem le_graph_Sets_List (n_ : Nat) (a : ((List (List Bool)) × Int × Unit)) : Le (e_graph_Sets_List n_ a) (d_graph_Sets_List a) := by
 unfold e_graph_Sets_List d_graph_Sets_List
 repeat' (first | with_reducible exact Le.refl _  | (with_reducible refine Le.bind ?_ (fun y => ?_)) | (with_reducible refine Le.bif ?_ ?_) | (with_reducible refine Le.loop (fun s => ?_) _ _) | (with_reducible refine Le.atO (fun e => ?_)) | split)
noncomputable def e_mindeg_Elimination_Eliminate (n_ : Nat) : (((List (List Bool)) × ((List Bool) × Unit)) × Int × Unit) → Option (((List (List Bool)) × ((List Bool) × Unit)) × (List Int) × Unit) := fun (x_1, v_2, _) =>
 (e_graph_Sets_List n_ (x_1.1, v_2, ())).bind fun (r3, _) =>
 (loopN (σ := (Int × ((List (List Bool)) × ((List Bool) × Unit)) × Unit)) (ρ := (((List (List Bool)) × ((List Bool) × Unit)) × Unit)) (fun (s_4, x_5, _) =>
 (bif (decide (s_4 < (((r3).length : Nat) : Int))) then (
 (getI r3 s_4).bind fun y6 =>
 ((some (0)).bind fun l7 => (natO s_4).bind fun l8 => (leO l7 l8 (r3).length).map fun _ => (l7, l8)).bind fun q9 =>
 (loopN (σ := (Int × ((List (List Bool)) × ((List Bool) × Unit)) × Unit)) (ρ := (((List (List Bool)) × ((List Bool) × Unit)) × Unit)) (fun (s_10, x_11, _) =>
 (bif (decide (s_10 < ((((((r3).take q9.2).drop q9.1)).length : Nat) : Int))) then (
 (getI (((r3).take q9.2).drop q9.1) s_10).bind fun y12 =>
 (e_graph_Sets_Join n_ (x_11.1, y6, y12, ())).bind fun (m13, _) =>
 some (.inl ((IntKind.i64.wrap (s_10 + ((1) : Int))), (m13, x_11.2), ()))) else (
 some (.inr (x_11, ()))))) n_ (((0) : Int), x_5, ())).bind fun (x_14, _) =>
 (idxN (x_14.1).length y6).bind fun k15 =>
 (idxN (x_14.1).length v_2).bind fun k17 =>
 (((atO x_14.1 k15 fun e19 => some e19)).bind fun e20 => idxN (e20).length v_2).bind fun k21 =>
 ((((atO x_14.1 k15 fun e22 => ((atO e22 k21 fun _ => some ((e22).set k21 false))).map fun z24 => (x_14.1).set k15 z24)).map fun z25 => (z25, x_14.2))).bind fun z26 =>
 (((atO z26.1 k17 fun e27 => some e27)).bind fun e28 => idxN (e28).length y6).bind fun k29 =>
 ((((atO z26.1 k17 fun e30 => ((atO e30 k29 fun _ => some ((e30).set k29 false))).map fun z32 => (z26.1).set k17 z32)).map fun z33 => (z33, z26.2))).bind fun z34 =>
 some (.inl ((IntKind.i64.wrap (s_4 + ((1) : Int))), z34, ()))) else (
 some (.inr (x_5, ()))))) n_ (((0) : Int), x_1, ())).bind fun (x_35, _) =>
 (idxN (x_35.2.1).length v_2).bind fun k36 =>
 ((((((atO x_35.2.1 k36 fun _ => some ((x_35.2.1).set k36 true))).map fun z38 => (z38, x_35.2.2))).map fun z39 => (x_35.1, z39))).bind fun z40 =>
 some (z40, r3, ())
set_option maxHeartbeats 4000000 in
theorem le_mindeg_Elimination_Eliminate (n_ : Nat) (a : (((List (List Bool)) × ((List Bool) × Unit)) × Int × Unit)) : Le (e_mindeg_Elimination_Eliminate n_ a) (d_mindeg_Elimination_Eliminate a) := by
 unfold e_mindeg_Elimination_Eliminate d_mindeg_Elimination_Eliminate
 repeat' (first | with_reducible exact Le.refl _ | with_reducible exact le_graph_Sets_List _ _ | with_reducible exact le_graph_Sets_Join _ _ | (with_reducible refine Le.bind ?_ (fun y => ?_)) | (with_reducible refine Le.bif ?_ ?_) | (with_reducible refine Le.loop (fun s => ?_) _ _) | (with_reducible refine Le.atO (fun e => ?_)) | split)
noncomputable def e_mindeg_Exact (n_ : Nat) : (((List (List Int)) × Unit) × Unit) → Option ((List Int) × Int × Unit) := fun (g_1, _) =>
 (e_graph_Check n_ (g_1, ())).bind fun (r31, _) =>
 (bif (r31 != ((0) : Int)) then (
 some ([], r31, ())) else (
 (e_mindeg_Start n_ (g_1, ())).bind fun (r32, _) =>
 (loopN (σ := (Int × ((List (List Bool)) × ((List Bool) × Unit)) × (List Int) × Unit)) (ρ := ((List Int) × Unit)) (fun (s_33, x_34, out_35, _) =>
 (bif (decide (s_33 < (((g_1.1).length : Nat) : Int))) then (
 (loopN (σ := (Int × Int × Int × ((List (List Bool)) × ((List Bool) × Unit)) × (List Int) × Unit)) (ρ := (Int × ((List (List Bool)) × ((List Bool) × Unit)) × (List Int) × Unit)) (fun (best_36, least_37, s_38, x_39, out_40, _) =>
 (bif (decide (s_38 < (((g_1.1).length : Nat) : Int))) then (
 Option.bind (α := (Int × Int × ((List (List Bool)) × ((List Bool) × Unit)) × (List Int) × Unit)) (
 (e_graph_Sets_List n_ (x_39.1, s_38, ())).bind fun (r41, _) =>
 Option.bind (α := (Bool × ((List (List Bool)) × ((List Bool) × Unit)) × (List Int) × Unit)) (
 (idxN (x_39.2.1).length s_38).bind fun k42 =>
 ((atO x_39.2.1 k42 fun e43 => some e43)).bind fun y44 =>
 (bif ((!y44) == true) then ((bif ((decide (best_36 < ((0) : Int))) == false) then (some ((decide ((((r41).length : Nat) : Int) < least_37)), x_39, out_40, ())) else (some (true, x_39, out_40, ())))) else (some (false, x_39, out_40, ())))) fun (s_45, x_46, out_47, _) =>
 (bif s_45 then (
 some (s_38, (((r41).length : Nat) : Int), x_46, out_47, ())) else (
 some (best_36, least_37, x_46, out_47, ())))) fun (best_48, least_49, x_50, out_51, _) =>
 some (.inl (best_48, least_49, (IntKind.i64.wrap (s_38 + ((1) : Int))), x_50, out_51, ()))) else (
 some (.inr (best_36, x_39, out_40, ()))))) n_ ((-1 : Int), ((0) : Int), ((0) : Int), x_34, out_35, ())).bind fun (best_52, x_53, out_54, _) =>
 (e_mindeg_Elimination_Eliminate n_ (x_53, best_52, ())).bind fun (m55, _, _) =>
 (limO ((out_54).length + ([best_52]).length)).bind fun _ =>
 some (.inl ((IntKind.i64.wrap (s_33 + ((1) : Int))), m55, (out_54 ++ [best_52]), ()))) else (
 some (.inr (out_35, ()))))) n_ (((0) : Int), r32, [], ())).bind fun (out_57, _) =>
 some (out_57, ((0) : Int), ())))
set_option maxHeartbeats 4000000 in
theorem le_mindeg_Exact (n_ : Nat) (a : (((List (List Int)) × Unit) × Unit)) : Le (e_mindeg_Exact n_ a) (d_mindeg_Exact a) := by
 unfold e_mindeg_Exact d_mindeg_Exact
 repeat' (first | with_reducible exact Le.refl _ | with_reducible exact le_graph_Check _ _ | with_reducible exact le_mindeg_Start _ _ | with_reducible exact le_graph_Sets_List _ _ | with_reducible exact le_mindeg_Elimination_Eliminate _ _ | (with_reducible refine Le.bind ?_ (fun y => ?_)) | (with_reducible refine Le.bif ?_ ?_) | (with_reducible refine Le.loop (fun s => ?_) _ _) | (with_reducible refine Le.atO (fun e => ?_)) | split)
noncomputable def e_graph_vertex (n_ : Nat) : (((List (List Int)) × Unit) × Int × Unit) → Option (Bool × Unit) := fun (g_1, v_2, _) =>
 (bif ((decide (v_2 ≥ ((0) : Int))) == true) then (some ((decide (v_2 < (((g_1.1).length : Nat) : Int))), ())) else (some (false, ())))
set_option maxHeartbeats 4000000 in
theorem le_graph_vertex (n_ : Nat) (a : (((List (List Int)) × Unit) × Int × Unit)) : Le (e_graph_vertex n_ a) (d_graph_vertex a) := by
 unfold e_graph_vertex d_graph_vertex
 repeat' (first | with_reducible exact Le.refl _  | (with_reducible refine Le.bind ?_ (fun y => ?_)) | (with_reducible refine Le.bif ?_ ?_) | (with_reducible refine Le.loop (fun s => ?_) _ _) | (with_reducible refine Le.atO (fun e => ?_)) | split)
noncomputable def e_math_bits_Len64 (n_ : Nat) : (Int × Unit) → Option (Int × Unit) := fun (x_1, _) =>
 Option.bind (α := (Int × Int × Unit)) (
 (bif (decide (x_1 ≥ ((4294967296) : Int))) then (
 (shrO IntKind.u64 x_1 ((32) : Int)).bind fun y2 =>
 some (y2, ((32) : Int), ())) else (
 some (x_1, ((0) : Int), ())))) fun (x_3, n_4, _) =>
 Option.bind (α := (Int × Int × Unit)) (
 (bif (decide (x_3 ≥ ((65536) : Int))) then (
 (shrO IntKind.u64 x_3 ((16) : Int)).bind fun y5 =>
 some (y5, (IntKind.i64.wrap (n_4 + ((16) : Int))), ())) else (
 some (x_3, n_4, ())))) fun (x_6, n_7, _) =>
 Option.bind (α := (Int × Int × Unit)) (
 (bif (decide (x_6 ≥ ((256) : Int))) then (
 (shrO IntKind.u64 x_6 ((8) : Int)).bind fun y8 =>
 some (y8, (IntKind.i64.wrap (n_7 + ((8) : Int))), ())) else (
 some (x_6, n_7, ())))) fun (x_9, n_10, _) =>
 (strI lenTab (IntKind.u8.wrap x_9)).bind fun c11 =>
 some ((IntKind.i64.wrap (n_10 + (IntKind.i64.wrap c11))), ())
set_option maxHeartbeats 4000000 in
theorem le_math_bits_Len64 (n_ : Nat) (a : (Int × Unit)) : Le (e_math_bits_Len64 n_ a) (d_math_bits_Len64 a) := by
 unfold e_math_bits_Len64 d_math_bits_Len64
 repeat' (first | with_reducible exact Le.refl _  | (with_reducible refine Le.bind ?_ (fun y => ?_)) | (with_reducible refine Le.bif ?_ ?_) | (with_reducible refine Le.loop (fun s => ?_) _ _) | (with_reducible refine Le.atO (fun e => ?_)) | split)
noncomputable def e_math_bits_Len (n_ : Nat) : (Int × Unit) → Option (Int × Unit) := fun (x_1, _) =>
 (e_math_bits_Len64 n_ (x_1, ())).bind fun (r2, _) =>
 some (r2, ())
set_option maxHeartbeats 4000000 in
theorem le_math_bits_Len (n_ : Nat) (a : (Int × Unit)) : Le (e_math_bits_Len n_ a) (d_math_bits_Len a) := by
 unfold e_math_bits_Len d_math_bits_Len
 repeat' (first | with_reducible exact Le.refl _ | with_reducible exact le_math_bits_Len64 _ _ | (with_reducible refine Le.bind ?_ (fun y => ?_)) | (with_reducible refine Le.bif ?_ ?_) | (with_reducible refine Le.loop (fun s => ?_) _ _) | (with_reducible refine Le.atO (fun e => ?_)) | split)
noncomputable def e_slices_insertionSortOrdered_int (n_ : Nat) : ((List Int) × Int × Int × Unit) → Option ((List Int) × Unit) := fun (data_1, a_2, b_3, _) =>
 (loopN (σ := (Int × (List Int) × Unit)) (ρ := ((List Int) × Unit)) (fun (i_4, data_5, _) =>
 (bif (decide (i_4 < b_3)) then (
 (loopN (σ := (Int × (List Int) × Unit)) (ρ := ((List Int) × Unit)) (fun (j_6, data_7, _) =>
 Option.bind (α := ((List Int) × Unit) ⊕ ((Int × (List Int) × Unit) ⊕ ((List Int) × Unit))) (
 (bif ((decide (j_6 > a_2)) == true) then ((idxN (data_7).length j_6).bind fun k8 =>
 ((atO data_7 k8 fun e9 => some e9)).bind fun y10 =>
 (idxN (data_7).length (IntKind.i64.wrap (j_6 - ((1) : Int)))).bind fun k11 =>
 ((atO data_7 k11 fun e12 => some e12)).bind fun y13 =>
 (e_cmp_Less_int n_ (y10, y13, ())).bind fun (r14, _) =>
 (bif r14 then (
 some (.inl (data_7, ()))) else (
 some (.inr (.inr (data_7, ())))))) else (some (.inr (.inr (data_7, ())))))) fun q => match q with
 | .inl (data_15, _) => (
 (idxN (data_15).length (IntKind.i64.wrap (j_6 - ((1) : Int)))).bind fun k16 =>
 ((atO data_15 k16 fun e17 => some e17)).bind fun y18 =>
 (idxN (data_15).length j_6).bind fun k19 =>
 ((atO data_15 k19 fun e20 => some e20)).bind fun y21 =>
 (idxN (data_15).length j_6).bind fun k22 =>
 ((atO data_15 k22 fun _ => some ((data_15).set k22 y18))).bind fun z24 =>
 (idxN (z24).length (IntKind.i64.wrap (j_6 - ((1) : Int)))).bind fun k25 =>
 ((atO z24 k25 fun _ => some ((z24).set k25 y21))).bind fun z27 =>
 some (.inl ((IntKind.i64.wrap (j_6 - ((1) : Int))), z27, ())))
 | .inr r => some r) n_ (i_4, data_5, ())).bind fun (data_28, _) =>
 some (.inl ((IntKind.i64.wrap (i_4 + ((1) : Int))), data_28, ()))) else (
 some (.inr (data_5, ()))))) n_ ((IntKind.i64.wrap (a_2 + ((1) : Int))), data_1, ())).bind fun (data_29, _) =>
 some (data_29, ())
set_option maxHeartbeats 4000000 in
theorem le_slices_insertionSortOrdered_int (n_ : Nat) (a : ((List Int) × Int × Int × Unit)) : Le (e_slices_insertionSortOrdered_int n_ a) (d_slices_insertionSortOrdered_int a) := by
 unfold e_slices_insertionSortOrdered_int d_slices_insertionSortOrdered_int
 repeat' (first | with_reducible exact Le.refl _ | with_reducible exact le_cmp_Less_int _ _ | (with_reducible refine Le.bind ?_ (fun y => ?_)) | (with_reducible refine Le.bif ?_ ?_) | (with_reducible refine Le.loop (fun s => ?_) _ _) | (with_reducible refine Le.atO (fun e => ?_)) | split)
noncomputable def e_slices_siftDownOrdered_int (n_ : Nat) : ((List Int) × Int × Int × Int × Unit) → Option ((List Int) × Unit) := fun (data_1, lo_2, hi_3, first_4, _) =>
 (loopN (σ := (Int × (List Int) × Unit)) (ρ := (((List Int) × Unit) ⊕ ((List Int) × Unit))) (fun (root_5, data_6, _) =>
 (bif (decide ((IntKind.i64.wrap ((IntKind.i64.wrap (((2) : Int) * root_5)) + ((1) : Int))) ≥ hi_3)) then (
 some (.inr (.inl (data_6, ())))) else (
 Option.bind (α := (Int × (List Int) × Unit)) (
 Option.bind (α := (Bool × (List Int) × Unit)) (
 (bif ((decide ((IntKind.i64.wrap ((IntKind.i64.wrap ((IntKind.i64.wrap (((2) : Int) * root_5)) + ((1) : Int))) + ((1) : Int))) < hi_3)) == true) then ((idxN (data_6).length (IntKind.i64.wrap (first_4 + (IntKind.i64.wrap ((IntKind.i64.wrap (((2) : Int) * root_5)) + ((1) : Int)))))).bind fun k7 =>
 ((atO data_6 k7 fun e8 => some e8)).bind fun y9 =>
 (idxN (data_6).length (IntKind.i64.wrap ((IntKind.i64.wrap (first_4 + (IntKind.i64.wrap ((IntKind.i64.wrap (((2) : Int) * root_5)) + ((1) : Int))))) + ((1) : Int)))).bind fun k10 =>
 ((atO data_6 k10 fun e11 => some e11)).bind fun y12 =>
 (e_cmp_Less_int n_ (y9, y12, ())).bind fun (r13, _) =>
 some (r13, data_6, ())) else (some (false, data_6, ())))) fun (s_14, data_15, _) =>
 (bif s_14 then (
 some ((IntKind.i64.wrap ((IntKind.i64.wrap ((IntKind.i64.wrap (((2) : Int) * root_5)) + ((1) : Int))) + ((1) : Int))), data_15, ())) else (
 some ((IntKind.i64.wrap ((IntKind.i64.wrap (((2) : Int) * root_5)) + ((1) : Int))), data_15, ())))) fun (child_16, data_17, _) =>
 (idxN (data_17).length (IntKind.i64.wrap (first_4 + root_5))).bind fun k18 =>
 ((atO data_17 k18 fun e19 => some e19)).bind fun y20 =>
 (idxN (data_17).length (IntKind.i64.wrap (first_4 + child_16))).bind fun k21 =>
 ((atO data_17 k21 fun e22 => some e22)).bind fun y23 =>
 (e_cmp_Less_int n_ (y20, y23, ())).bind fun (r24, _) =>
 (bif (!r24) then (
 some (.inr (.inr (data_17, ())))) else (
 (idxN (data_17).length (IntKind.i64.wrap (first_4 + child_16))).bind fun k25 =>
 ((atO data_17 k25 fun e26 => some e26)).bind fun y27 =>
 (idxN (data_17).length (IntKind.i64.wrap (first_4 + root_5))).bind fun k28 =>
 ((atO data_17 k28 fun e29 => some e29)).bind fun y30 =>
 (idxN (data_17).length (IntKind.i64.wrap (first_4 + root_5))).bind fun k31 =>
 ((atO data_17 k31 fun _ => some ((data_17).set k31 y27))).bind fun z33 =>
 (idxN (z33).length (IntKind.i64.wrap (first_4 + child_16))).bind fun k34 =>
 ((atO z33 k34 fun _ => some ((z33).set k34 y30))).bind fun z36 =>
 some (.inl (child_16, z36, ()))))))) n_ (lo_2, data_1, ())).bind fun q => match q with
 | .inl (data_37, _) => (
 some (data_37, ()))
 | .inr r => some r
set_option maxHeartbeats 4000000 in
theorem le_slices_siftDownOrdered_int (n_ : Nat) (a : ((List Int) × Int × Int × Int × Unit)) : Le (e_slices_siftDownOrdered_int n_ a) (d_slices_siftDownOrdered_int a) := by
 unfold e_slices_siftDownOrdered_int d_slices_siftDownOrdered_int
 repeat' (first | with_reducible exact Le.refl _ | with_reducible exact le_cmp_Less_int _ _ | (with_reducible refine Le.bind ?_ (fun y => ?_)) | (with_reducible refine Le.bif ?_ ?_) | (with_reducible refine Le.loop (fun s => ?_) _ _) | (with_reducible refine Le.atO (fun e => ?_)) | split)
noncomputable def e_slices_heapSortOrdered_int (n_ : Nat) : ((List Int) × Int × Int × Unit) → Option ((List Int) × Unit) := fun (data_1, a_2, b_3, _) =>
 (quoO IntKind.i64 (IntKind.i64.wrap ((IntKind.i64.wrap (b_3 - a_2)) - ((1) : Int))) ((2) : Int)).bind fun y4 =>
 (loopN (σ := (Int × (List Int) × Unit)) (ρ := ((List Int) × Unit)) (fun (i_5, data_6, _) =>
 (bif (decide (i_5 ≥ ((0) : Int))) then (
 (e_slices_siftDownOrdered_int n_ (data_6, i_5, (IntKind.i64.wrap (b_3 - a_2)), a_2, ())).bind fun (m7, _) =>
 some (.inl ((IntKind.i64.wrap (i_5 - ((1) : Int))), m7, ()))) else (
 some (.inr (data_6, ()))))) n_ (y4, data_1, ())).bind fun (data_8, _) =>
 (loopN (σ := (Int × (List Int) × Unit)) (ρ := ((List Int) × Unit)) (fun (i_9, data_10, _) =>
 (bif (decide (i_9 ≥ ((0) : Int))) then (
 (idxN (data_10).length (IntKind.i64.wrap (a_2 + i_9))).bind fun k11 =>
 ((atO data_10 k11 fun e12 => some e12)).bind fun y13 =>
 (idxN (data_10).length a_2).bind fun k14 =>
 ((atO data_10 k14 fun e15 => some e15)).bind fun y16 =>
 (idxN (data_10).length a_2).bind fun k17 =>
 ((atO data_10 k17 fun _ => some ((data_10).set k17 y13))).bind fun z19 =>
 (idxN (z19).length (IntKind.i64.wrap (a_2 + i_9))).bind fun k20 =>
 ((atO z19 k20 fun _ => some ((z19).set k20 y16))).bind fun z22 =>
 (e_slices_siftDownOrdered_int n_ (z22, ((0) : Int), i_9, a_2, ())).bind fun (m23, _) =>
 some (.inl ((IntKind.i64.wrap (i_9 - ((1) : Int))), m23, ()))) else (
 some (.inr (data_10, ()))))) n_ ((IntKind.i64.wrap ((IntKind.i64.wrap (b_3 - a_2)) - ((1) : Int))), data_8, ())).bind fun (data_24, _) =>
 some (data_24, ())
set_option maxHeartbeats 4000000 in
theorem le_slices_heapSortOrdered_int (n_ : Nat) (a : ((List Int) × Int × Int × Unit)) : Le (e_slices_heapSortOrdered_int n_ a) (d_slices_heapSortOrdered_int a) := by
 unfold e_slices_heapSortOrdered_int d_slices_heapSortOrdered_int
 repeat' (first | with_reducible exact Le.refl _ | with_reducible exact le_slices_siftDownOrdered_int _ _ | (with_reducible refine Le.bind ?_ (fun y => ?_)) | (with_reducible refine Le.bif ?_ ?_) | (with_reducible refine Le.loop (fun s => ?_) _ _) | (with_reducible refine Le.atO (fun e => ?_)) | split)
noncomputable def e_slices_nextPowerOfTwo (n_ : Nat) : (Int × Unit) → Option (Int × Unit) := fun (length_1, _) =>
 (e_math_bits_Len n_ ((IntKind.u64.wrap length_1), ())).bind fun (r2, _) =>
 (shlO IntKind.u64 ((1) : Int) r2).bind fun y3 =>
 some (y3, ())
set_option maxHeartbeats 4000000 in
theorem le_slices_nextPowerOfTwo (n_ : Nat) (a : (Int × Unit)) : Le (e_slices_nextPowerOfTwo n_ a) (d_slices_nextPowerOfTwo a) := by
 unfold e_slices_nextPowerOfTwo d_slices_nextPowerOfTwo
 repeat' (first | with_reducible exact Le.refl _ | with_reducible exact le_math_bits_Len _ _ | (with_reducible refine Le.bind ?_ (fun y => ?_)) | (with_reducible refine Le.bif ?_ ?_) | (with_reducible refine Le.loop (fun s => ?_) _ _) | (with_reducible refine Le.atO (fun e => ?_)) | split)
noncomputable def e_slices_xorshift_Next (n_ : Nat) : (Int × Unit) → Option (Int × Int × Unit) := fun (r_1, _) =>
 (shlO IntKind.u64 r_1 ((13) : Int)).bind fun y2 =>
 (shrO IntKind.u64 (xorI IntKind.u64 r_1 y2) ((7) : Int)).bind fun y3 =>
 (shlO IntKind.u64 (xorI IntKind.u64 (xorI IntKind.u64 r_1 y2) y3) ((17) : Int)).bind fun y4 =>
 some ((xorI IntKind.u64 (xorI IntKind.u64 (xorI IntKind.u64 r_1 y2) y3) y4), (xorI IntKind.u64 (xorI IntKind.u64 (xorI IntKind.u64 r_1 y2) y3) y4), ())
set_option maxHeartbeats 4000000 in
theorem le_slices_xorshift_Next (n_ : Nat) (a : (Int × Unit)) : Le (e_slices_xorshift_Next n_ a) (d_slices_xorshift_Next a) := by
 unfold e_slices_xorshift_Next d_slices_xorshift_Next
 repeat' (first | with_reducible exact Le.refl _  | (with_reducible refine Le.bind ?_ (fun y => ?_)) | (with_reducible refine Le.bif ?_ ?_) | (with_reducible refine Le.loop (fun s => ?_) _ _) | (with_reducible refine Le.atO (fun e => ?_)) | split)
noncomputable def e_slices_breakPatternsOrdered_int (n_ : Nat) : ((List Int) × Int × Int × Unit) → Option ((List Int) × Unit) := fun (data_1, a_2, b_3, _) =>
 (bif (decide ((IntKind.i64.wrap (b_3 - a_2)) ≥ ((8) : Int))) then (
 (e_slices_nextPowerOfTwo n_ ((IntKind.i64.wrap (b_3 - a_2)), ())).bind fun (r4, _) =>
 (quoO IntKind.i64 (IntKind.i64.wrap (b_3 - a_2)) ((4) : Int)).bind fun y5 =>
 (loopN (σ := (Int × (List Int) × Int × Unit)) (ρ := ((List Int) × Unit)) (fun (idx_6, data_7, random_8, _) =>
 (quoO IntKind.i64 (IntKind.i64.wrap (b_3 - a_2)) ((4) : Int)).bind fun y9 =>
 (bif (decide (idx_6 ≤ (IntKind.i64.wrap ((IntKind.i64.wrap (a_2 + (IntKind.i64.wrap (y9 * ((2) : Int))))) + ((1) : Int))))) then (
 Option.bind (α := ((List Int) × Int × Unit)) (
 (e_slices_xorshift_Next n_ (random_8, ())).bind fun (m10, r11, _) =>
 Option.bind (α := (Int × (List Int) × Int × Unit)) (
 (bif (decide ((IntKind.i64.wrap (andI IntKind.u64 r11 (IntKind.u64.wrap (r4 - ((1) : Int))))) ≥ (IntKind.i64.wrap (b_3 - a_2)))) then (
 some ((IntKind.i64.wrap ((IntKind.i64.wrap (andI IntKind.u64 r11 (IntKind.u64.wrap (r4 - ((1) : Int))))) - (IntKind.i64.wrap (b_3 - a_2)))), data_7, m10, ())) else (
 some ((IntKind.i64.wrap (andI IntKind.u64 r11 (IntKind.u64.wrap (r4 - ((1) : Int))))), data_7, m10, ())))) fun (other_12, data_13, random_14, _) =>
 (idxN (data_13).length (IntKind.i64.wrap (a_2 + other_12))).bind fun k15 =>
 ((atO data_13 k15 fun e16 => some e16)).bind fun y17 =>
 (idxN (data_13).length idx_6).bind fun k18 =>
 ((atO data_13 k18 fun e19 => some e19)).bind fun y20 =>
 (idxN (data_13).length idx_6).bind fun k21 =>
 ((atO data_13 k21 fun _ => some ((data_13).set k21 y17))).bind fun z23 =>
 (idxN (z23).length (IntKind.i64.wrap (a_2 + other_12))).bind fun k24 =>
 ((atO z23 k24 fun _ => some ((z23).set k24 y20))).bind fun z26 =>
 some (z26, random_14, ())) fun (data_27, random_28, _) =>
 some (.inl ((IntKind.i64.wrap (idx_6 + ((1) : Int))), data_27, random_28, ()))) else (
 some (.inr (data_7, ()))))) n_ ((IntKind.i64.wrap ((IntKind.i64.wrap (a_2 + (IntKind.i64.wrap (y5 * ((2) : Int))))) - ((1) : Int))), data_1, (IntKind.u64.wrap (IntKind.i64.wrap (b_3 - a_2))), ())).bind fun (data_29, _) =>
 some (data_29, ())) else (
 some (data_1, ())))
set_option maxHeartbeats 4000000 in
theorem le_slices_breakPatternsOrdered_int (n_ : Nat) (a : ((List Int) × Int × Int × Unit)) : Le (e_slices_breakPatternsOrdered_int n_ a) (d_slices_breakPatternsOrdered_int a) := by
 unfold e_slices_breakPatternsOrdered_int d_slices_breakPatternsOrdered_int
 repeat' (first | with_reducible exact Le.refl _ | with_reducible exact le_slices_nextPowerOfTwo _ _ | with_reducible exact le_slices_xorshift_Next _ _ | (with_reducible refine Le.bind ?_ (fun y => ?_)) | (with_reducible refine Le.bif ?_ ?_) | (with_reducible refine Le.loop (fun s => ?_) _ _) | (with_reducible refine Le.atO (fun e => ?_)) | split)
noncomputable def e_slices_order2Ordered_int (n_ : Nat) : ((List Int) × Int × Int × Int × Unit) → Option (Int × Int × Int × Unit) := fun (data_1, a_2, b_3, swaps_4, _) =>
 (getI data_1 b_3).bind fun y5 =>
 (getI data_1 a_2).bind fun y6 =>
 (e_cmp_Less_int n_ (y5, y6, ())).bind fun (r7, _) =>
 (bif r7 then (
 some ((IntKind.i64.wrap (swaps_4 + ((1) : Int))), b_3, a_2, ())) else (
 some (swaps_4, a_2, b_3, ())))
set_option maxHeartbeats 4000000 in
theorem le_slices_order2Ordered_int (n_ : Nat) (a : ((List Int) × Int × Int × Int × Unit)) : Le (e_slices_order2Ordered_int n_ a) (d_slices_order2Ordered_int a) := by
 unfold e_slices_order2Ordered_int d_slices_order2Ordered_int
 repeat' (first | with_reducible exact Le.refl _ | with_reducible exact le_cmp_Less_int _ _ | (with_reducible refine Le.bind ?_ (fun y => ?_)) | (with_reducible refine Le.bif ?_ ?_) | (with_reducible refine Le.loop (fun s => ?_) _ _) | (with_reducible refine Le.atO (fun e => ?_)) | split)
noncomputable def e_slices_medianOrdered_int (n_ : Nat) : ((List Int) × Int × Int × Int × Int × Unit) → Option (Int × Int × Unit) := fun (data_1, a_2, b_3, c_4, swaps_5, _) =>
 (e_slices_order2Ordered_int n_ (data_1, a_2, b_3, swaps_5, ())).bind fun (m6, r7, r8, _) =>
 (e_slices_order2Ordered_int n_ (data_1, r8, c_4, m6, ())).bind fun (m9, r10, _, _) =>
 (e_slices_order2Ordered_int n_ (data_1, r7, r10, m9, ())).bind fun (m12, _, r14, _) =>
 some (m12, r14, ())
set_option maxHeartbeats 4000000 in
theorem le_slices_medianOrdered_int (n_ : Nat) (a : ((List Int) × Int × Int × Int × Int × Unit)) : Le (e_slices_medianOrdered_int n_ a) (d_slices_medianOrdered_int a) := by
 unfold e_slices_medianOrdered_int d_slices_medianOrdered_int
 repeat' (first | with_reducible exact Le.refl _ | with_reducible exact le_slices_order2Ordered_int _ _ | (with_reducible refine Le.bind ?_ (fun y => ?_)) | (with_reducible refine Le.bif ?_ ?_) | (with_reducible refine Le.loop (fun s => ?_) _ _) | (with_reducible refine Le.atO (fun e => ?_)) | split)
noncomputable def e_slices_medianAdjacentOrdered_int (n_ : Nat) : ((List Int) × Int × Int × Unit) → Option (Int × Int × Unit) := fun (data_1, a_2, swaps_3, _) =>
 (e_slices_medianOrdered_int n_ (data_1, (IntKind.i64.wrap (a_2 - ((1) : Int))), a_2, (IntKind.i64.wrap (a_2 + ((1) : Int))), swaps_3, ())).bind fun (m4, r5, _) =>
 some (m4, r5, ())
set_option maxHeartbeats 4000000 in
theorem le_slices_medianAdjacentOrdered_int (n_ : Nat) (a : ((List Int) × Int × Int × Unit)) : Le (e_slices_medianAdjacentOrdered_int n_ a) (d_slices_medianAdjacentOrdered_int a) := by
 unfold e_slices_medianAdjacentOrdered_int d_slices_medianAdjacentOrdered_int
 repeat' (first | with_reducible exact Le.refl _ | with_reducible exact le_slices_medianOrdered_int _ _ | (with_reducible refine Le.bind ?_ (fun y => ?_)) | (with_reducible refine Le.bif ?_ ?_) | (with_reducible refine Le.loop (fun s => ?_) _ _) | (with_reducible refine Le.atO (fun e => ?_)) | split)
noncomputable def e_slices_choosePivotOrdered_int (n_ : Nat) : ((List Int) × Int × Int × Unit) → Option (Int × Int × Unit) := fun (data_1, a_2, b_3, _) =>
 (quoO IntKind.i64 (IntKind.i64.wrap (b_3 - a_2)) ((4) : Int)).bind fun y4 =>
 (quoO IntKind.i64 (IntKind.i64.wrap (b_3 - a_2)) ((4) : Int)).bind fun y5 =>
 (quoO IntKind.i64 (IntKind.i64.wrap (b_3 - a_2)) ((4) : Int)).bind fun y6 =>
 Option.bind (α := (Int × Int × Unit)) (
 (bif (decide ((IntKind.i64.wrap (b_3 - a_2)) ≥ ((8) : Int))) then (
 Option.bind (α := (Int × Int × Int × Int × Unit)) (
 (bif (decide ((IntKind.i64.wrap (b_3 - a_2)) ≥ ((50) : Int))) then (
 (e_slices_medianAdjacentOrdered_int n_ (data_1, (IntKind.i64.wrap (a_2 + (IntKind.i64.wrap (y4 * ((1) : Int))))), (0 : Int), ())).bind fun (m7, r8, _) =>
 (e_slices_medianAdjacentOrdered_int n_ (data_1, (IntKind.i64.wrap (a_2 + (IntKind.i64.wrap (y5 * ((2) : Int))))), m7, ())).bind fun (m9, r10, _) =>
 (e_slices_medianAdjacentOrdered_int n_ (data_1, (IntKind.i64.wrap (a_2 + (IntKind.i64.wrap (y6 * ((3) : Int))))), m9, ())).bind fun (m11, r12, _) =>
 some (r8, r10, r12, m11, ())) else (
 some ((IntKind.i64.wrap (a_2 + (IntKind.i64.wrap (y4 * ((1) : Int))))), (IntKind.i64.wrap (a_2 + (IntKind.i64.wrap (y5 * ((2) : Int))))), (IntKind.i64.wrap (a_2 + (IntKind.i64.wrap (y6 * ((3) : Int))))), (0 : Int), ())))) fun (i_13, j_14, k_15, swaps_16, _) =>
 (e_slices_medianOrdered_int n_ (data_1, i_13, j_14, k_15, swaps_16, ())).bind fun (m17, r18, _) =>
 some (r18, m17, ())) else (
 some ((IntKind.i64.wrap (a_2 + (IntKind.i64.wrap (y5 * ((2) : Int))))), (0 : Int), ())))) fun (j_19, swaps_20, _) =>
 (bif (swaps_20 == ((0) : Int)) then (
 some (j_19, ((1) : Int), ())) else (
 (bif (swaps_20 == ((12) : Int)) then (
 some (j_19, ((2) : Int), ())) else (
 some (j_19, ((0) : Int), ())))))
set_option maxHeartbeats 4000000 in
theorem le_slices_choosePivotOrdered_int (n_ : Nat) (a : ((List Int) × Int × Int × Unit)) : Le (e_slices_choosePivotOrdered_int n_ a) (d_slices_choosePivotOrdered_int a) := by
 unfold e_slices_choosePivotOrdered_int d_slices_choosePivotOrdered_int
 repeat' (first | with_reducible exact Le.refl _ | with_reducible exact le_slices_medianAdjacentOrdered_int _ _ | with_reducible exact le_slices_medianOrdered_int _ _ | (with_reducible refine Le.bind ?_ (fun y => ?_)) | (with_reducible refine Le.bif ?_ ?_) | (with_reducible refine Le.loop (fun s => ?_) _ _) | (with_reducible refine Le.atO (fun e => ?_)) | split)
noncomputable def e_slices_reverseRangeOrdered_int (n_ : Nat) : ((List Int) × Int × Int × Unit) → Option ((List Int) × Unit) := fun (data_1, a_2, b_3, _) =>
 (loopN (σ := (Int × Int × (List Int) × Unit)) (ρ := ((List Int) × Unit)) (fun (i_4, j_5, data_6, _) =>
 (bif (decide (i_4 < j_5)) then (
 (idxN (data_6).length j_5).bind fun k7 =>
 ((atO data_6 k7 fun e8 => some e8)).bind fun y9 =>
 (idxN (data_6).length i_4).bind fun k10 =>
 ((atO data_6 k10 fun e11 => some e11)).bind fun y12 =>
 (idxN (data_6).length i_4).bind fun k13 =>
 ((atO data_6 k13 fun _ => some ((data_6).set k13 y9))).bind fun z15 =>
 (idxN (z15).length j_5).bind fun k16 =>
 ((atO z15 k16 fun _ => some ((z15).set k16 y12))).bind fun z18 =>
 some (.inl ((IntKind.i64.wrap (i_4 + ((1) : Int))), (IntKind.i64.wrap (j_5 - ((1) : Int))), z18, ()))) else (
 some (.inr (data_6, ()))))) n_ (a_2, (IntKind.i64.wrap (b_3 - ((1) : Int))), data_1, ())).bind fun (data_19, _) =>
 some (data_19, ())
set_option maxHeartbeats 4000000 in
theorem le_slices_reverseRangeOrdered_int (n_ : Nat) (a : ((List Int) × Int × Int × Unit)) : Le (e_slices_reverseRangeOrdered_int n_ a) (d_slices_reverseRangeOrdered_int a) := by
 unfold e_slices_reverseRangeOrdered_int d_slices_reverseRangeOrdered_int
 repeat' (first | with_reducible exact Le.refl _  | (with_reducible refine Le.bind ?_ (fun y => ?_)) | (with_reducible refine Le.bif ?_ ?_) | (with_reducible refine Le.loop (fun s => ?_) _ _) | (with_reducible refine Le.atO (fun e => ?_)) | split)
noncomputable def e_slices_partialInsertionSortOrdered_int (n_ : Nat) : ((List Int) × Int × Int × Unit) → Option ((List Int) × Bool × Unit) := fun (data_1, a_2, b_3, _) =>
 (loopN (σ := (Int × Int × (List Int) × Unit)) (ρ := (((List Int) × Unit) ⊕ ((List Int) × Bool × Unit))) (fun (i_4, j_5, data_6, _) =>
 (bif (decide (j_5 < ((5) : Int))) then (
 Option.bind (α := (Int × (List Int) × Unit) ⊕ ((Int × Int × (List Int) × Unit) ⊕ (((List Int) × Unit) ⊕ ((List Int) × Bool × Unit)))) (
 (loopN (σ := (Int × (List Int) × Unit)) (ρ := (Int × (List Int) × Unit)) (fun (i_7, data_8, _) =>
 Option.bind (α := ((List Int) × Unit) ⊕ ((Int × (List Int) × Unit) ⊕ (Int × (List Int) × Unit))) (
 (bif ((decide (i_7 < b_3)) == true) then ((idxN (data_8).length i_7).bind fun k9 =>
 ((atO data_8 k9 fun e10 => some e10)).bind fun y11 =>
 (idxN (data_8).length (IntKind.i64.wrap (i_7 - ((1) : Int)))).bind fun k12 =>
 ((atO data_8 k12 fun e13 => some e13)).bind fun y14 =>
 (e_cmp_Less_int n_ (y11, y14, ())).bind fun (r15, _) =>
 (bif (!r15) then (
 some (.inl (data_8, ()))) else (
 some (.inr (.inr (i_7, data_8, ())))))) else (some (.inr (.inr (i_7, data_8, ())))))) fun q => match q with
 | .inl (data_16, _) => (
 some (.inl ((IntKind.i64.wrap (i_7 + ((1) : Int))), data_16, ())))
 | .inr r => some r) n_ (i_4, data_6, ())).bind fun (i_17, data_18, _) =>
 (bif (i_17 == b_3) then (
 some (.inr (.inr (.inr (data_18, true, ()))))) else (
 (bif (decide ((IntKind.i64.wrap (b_3 - a_2)) < ((50) : Int))) then (
 some (.inr (.inr (.inr (data_18, false, ()))))) else (
 (idxN (data_18).length (IntKind.i64.wrap (i_17 - ((1) : Int)))).bind fun k19 =>
 ((atO data_18 k19 fun e20 => some e20)).bind fun y21 =>
 (idxN (data_18).length i_17).bind fun k22 =>
 ((atO data_18 k22 fun e23 => some e23)).bind fun y24 =>
 (idxN (data_18).length i_17).bind fun k25 =>
 ((atO data_18 k25 fun _ => some ((data_18).set k25 y21))).bind fun z27 =>
 (idxN (z27).length (IntKind.i64.wrap (i_17 - ((1) : Int)))).bind fun k28 =>
 ((atO z27 k28 fun _ => some ((z27).set k28 y24))).bind fun z30 =>
 Option.bind (α := ((List Int) × Unit)) (
 (bif (decide ((IntKind.i64.wrap (i_17 - a_2)) ≥ ((2) : Int))) then (
 (loopN (σ := (Int × (List Int) × Unit)) (ρ := ((List Int) × Unit)) (fun (j_31, data_32, _) =>
 (bif (decide (j_31 ≥ ((1) : Int))) then (
 (idxN (data_32).length j_31).bind fun k33 =>
 ((atO data_32 k33 fun e34 => some e34)).bind fun y35 =>
 (idxN (data_32).length (IntKind.i64.wrap (j_31 - ((1) : Int)))).bind fun k36 =>
 ((atO data_32 k36 fun e37 => some e37)).bind fun y38 =>
 (e_cmp_Less_int n_ (y35, y38, ())).bind fun (r39, _) =>
 (bif (!r39) then (
 some (.inr (data_32, ()))) else (
 (idxN (data_32).length (IntKind.i64.wrap (j_31 - ((1) : Int)))).bind fun k40 =>
 ((atO data_32 k40 fun e41 => some e41)).bind fun y42 =>
 (idxN (data_32).length j_31).bind fun k43 =>
 ((atO data_32 k43 fun e44 => some e44)).bind fun y45 =>
 (idxN (data_32).length j_31).bind fun k46 =>
 ((atO data_32 k46 fun _ => some ((data_32).set k46 y42))).bind fun z48 =>
 (idxN (z48).length (IntKind.i64.wrap (j_31 - ((1) : Int)))).bind fun k49 =>
 ((atO z48 k49 fun _ => some ((z48).set k49 y45))).bind fun z51 =>
 some (.inl ((IntKind.i64.wrap (j_31 - ((1) : Int))), z51, ()))))) else (
 some (.inr (data_32, ()))))) n_ ((IntKind.i64.wrap (i_17 - ((1) : Int))), z30, ())).bind fun (data_52, _) =>
 some (data_52, ())) else (
 some (z30, ())))) fun (data_53, _) =>
 (bif (decide ((IntKind.i64.wrap (b_3 - i_17)) ≥ ((2) : Int))) then (
 (loopN (σ := (Int × (List Int) × Unit)) (ρ := ((List Int) × Unit)) (fun (j_54, data_55, _) =>
 (bif (decide (j_54 < b_3)) then (
 (idxN (data_55).length j_54).bind fun k56 =>
 ((atO data_55 k56 fun e57 => some e57)).bind fun y58 =>
 (idxN (data_55).length (IntKind.i64.wrap (j_54 - ((1) : Int)))).bind fun k59 =>
 ((atO data_55 k59 fun e60 => some e60)).bind fun y61 =>
 (e_cmp_Less_int n_ (y58, y61, ())).bind fun (r62, _) =>
 (bif (!r62) then (
 some (.inr (data_55, ()))) else (
 (idxN (data_55).length (IntKind.i64.wrap (j_54 - ((1) : Int)))).bind fun k63 =>
 ((atO data_55 k63 fun e64 => some e64)).bind fun y65 =>
 (idxN (data_55).length j_54).bind fun k66 =>
 ((atO data_55 k66 fun e67 => some e67)).bind fun y68 =>
 (idxN (data_55).length j_54).bind fun k69 =>
 ((atO data_55 k69 fun _ => some ((data_55).set k69 y65))).bind fun z71 =>
 (idxN (z71).length (IntKind.i64.wrap (j_54 - ((1) : Int)))).bind fun k72 =>
 ((atO z71 k72 fun _ => some ((z71).set k72 y68))).bind fun z74 =>
 some (.inl ((IntKind.i64.wrap (j_54 + ((1) : Int))), z74, ()))))) else (
 some (.inr (data_55, ()))))) n_ ((IntKind.i64.wrap (i_17 + ((1) : Int))), data_53, ())).bind fun (data_75, _) =>
 some (.inl (i_17, data_75, ()))) else (
 some (.inl (i_17, data_53, ()))))))))) fun q => match q with
 | .inl (i_76, data_77, _) => (
 some (.inl (i_76, (IntKind.i64.wrap (j_5 + ((1) : Int))), data_77, ())))
 | .inr r => some r) else (
 some (.inr (.inl (data_6, ())))))) n_ ((IntKind.i64.wrap (a_2 + ((1) : Int))), ((0) : Int), data_1, ())).bind fun q => match q with
 | .inl (data_78, _) => (
 some (data_78, false, ()))
 | .inr r => some r
set_option maxHeartbeats 4000000 in
theorem le_slices_partialInsertionSortOrdered_int (n_ : Nat) (a : ((List Int) × Int × Int × Unit)) : Le (e_slices_partialInsertionSortOrdered_int n_ a) (d_slices_partialInsertionSortOrdered_int a) := by
 unfold e_slices_partialInsertionSortOrdered_int d_slices_partialInsertionSortOrdered_int
 repeat' (first | with_reducible exact Le.refl _ | with_reducible exact le_cmp_Less_int _ _ | (with_reducible refine Le.bind ?_ (fun y => ?_)) | (with_reducible refine Le.bif ?_ ?_) | (with_reducible refine Le.loop (fun s => ?_) _ _) | (with_reducible refine Le.atO (fun e => ?_)) | split)
noncomputable def e_slices_partitionEqualOrdered_int (n_ : Nat) : ((List Int) × Int × Int × Int × Unit) → Option ((List Int) × Int × Unit) := fun (data_1, a_2, b_3, pivot_4, _) =>
 (idxN (data_1).length pivot_4).bind fun k5 =>
 ((atO data_1 k5 fun e6 => some e6)).bind fun y7 =>
 (idxN (data_1).length a_2).bind fun k8 =>
 ((atO data_1 k8 fun e9 => some e9)).bind fun y10 =>
 (idxN (data_1).length a_2).bind fun k11 =>
 ((atO data_1 k11 fun _ => some ((data_1).set k11 y7))).bind fun z13 =>
 (idxN (z13).length pivot_4).bind fun k14 =>
 ((atO z13 k14 fun _ => some ((z13).set k14 y10))).bind fun z16 =>
 (loopN (σ := (Int × Int × (List Int) × Unit)) (ρ := (Int × (List Int) × Unit)) (fun (i_17, j_18, data_19, _) =>
 (loopN (σ := (Int × (List Int) × Unit)) (ρ := (Int × (List Int) × Unit)) (fun (i_20, data_21, _) =>
 Option.bind (α := ((List Int) × Unit) ⊕ ((Int × (List Int) × Unit) ⊕ (Int × (List Int) × Unit))) (
 (bif ((decide (i_20 ≤ j_18)) == true) then ((idxN (data_21).length a_2).bind fun k22 =>
 ((atO data_21 k22 fun e23 => some e23)).bind fun y24 =>
 (idxN (data_21).length i_20).bind fun k25 =>
 ((atO data_21 k25 fun e26 => some e26)).bind fun y27 =>
 (e_cmp_Less_int n_ (y24, y27, ())).bind fun (r28, _) =>
 (bif (!r28) then (
 some (.inl (data_21, ()))) else (
 some (.inr (.inr (i_20, data_21, ())))))) else (some (.inr (.inr (i_20, data_21, ())))))) fun q => match q with
 | .inl (data_29, _) => (
 some (.inl ((IntKind.i64.wrap (i_20 + ((1) : Int))), data_29, ())))
 | .inr r => some r) n_ (i_17, data_19, ())).bind fun (i_30, data_31, _) =>
 (loopN (σ := (Int × (List Int) × Unit)) (ρ := (Int × (List Int) × Unit)) (fun (j_32, data_33, _) =>
 Option.bind (α := ((List Int) × Unit) ⊕ ((Int × (List Int) × Unit) ⊕ (Int × (List Int) × Unit))) (
 (bif ((decide (i_30 ≤ j_32)) == true) then ((idxN (data_33).length a_2).bind fun k34 =>
 ((atO data_33 k34 fun e35 => some e35)).bind fun y36 =>
 (idxN (data_33).length j_32).bind fun k37 =>
 ((atO data_33 k37 fun e38 => some e38)).bind fun y39 =>
 (e_cmp_Less_int n_ (y36, y39, ())).bind fun (r40, _) =>
 (bif r40 then (
 some (.inl (data_33, ()))) else (
 some (.inr (.inr (j_32, data_33, ())))))) else (some (.inr (.inr (j_32, data_33, ())))))) fun q => match q with
 | .inl (data_41, _) => (
 some (.inl ((IntKind.i64.wrap (j_32 - ((1) : Int))), data_41, ())))
 | .inr r => some r) n_ (j_18, data_31, ())).bind fun (j_42, data_43, _) =>
 (bif (decide (i_30 > j_42)) then (
 some (.inr (i_30, data_43, ()))) else (
 (idxN (data_43).length j_42).bind fun k44 =>
 ((atO data_43 k44 fun e45 => some e45)).bind fun y46 =>
 (idxN (data_43).length i_30).bind fun k47 =>
 ((atO data_43 k47 fun e48 => some e48)).bind fun y49 =>
 (idxN (data_43).length i_30).bind fun k50 =>
 ((atO data_43 k50 fun _ => some ((data_43).set k50 y46))).bind fun z52 =>
 (idxN (z52).length j_42).bind fun k53 =>
 ((atO z52 k53 fun _ => some ((z52).set k53 y49))).bind fun z55 =>
 some (.inl ((IntKind.i64.wrap (i_30 + ((1) : Int))), (IntKind.i64.wrap (j_42 - ((1) : Int))), z55, ()))))) n_ ((IntKind.i64.wrap (a_2 + ((1) : Int))), (IntKind.i64.wrap (b_3 - ((1) : Int))), z16, ())).bind fun (i_56, data_57, _) =>
 some (data_57, i_56, ())
set_option maxHeartbeats 4000000 in
theorem le_slices_partitionEqualOrdered_int (n_ : Nat) (a : ((List Int) × Int × Int × Int × Unit)) : Le (e_slices_partitionEqualOrdered_int n_ a) (d_slices_partitionEqualOrdered_int a) := by
 unfold e_slices_partitionEqualOrdered_int d_slices_partitionEqualOrdered_int
 repeat' (first | with_reducible exact Le.refl _ | with_reducible exact le_cmp_Less_int _ _ | (with_reducible refine Le.bind ?_ (fun y => ?_)) | (with_reducible refine Le.bif ?_ ?_) | (with_reducible refine Le.loop (fun s => ?_) _ _) | (with_reducible refine Le.atO (fun e => ?_)) | split)
noncomputable def e_slices_partitionOrdered_int (n_ : Nat) : ((List Int) × Int × Int × Int × Unit) → Option ((List Int) × Int × Bool × Unit) := fun (data_1, a_2, b_3, pivot_4, _) =>
 (idxN (data_1).length pivot_4).bind fun k5 =>
 ((atO data_1 k5 fun e6 => some e6)).bind fun y7 =>
 (idxN (data_1).length a_2).bind fun k8 =>
 ((atO data_1 k8 fun e9 => some e9)).bind fun y10 =>
 (idxN (data_1).length a_2).bind fun k11 =>
 ((atO data_1 k11 fun _ => some ((data_1).set k11 y7))).bind fun z13 =>
 (idxN (z13).length pivot_4).bind fun k14 =>
 ((atO z13 k14 fun _ => some ((z13).set k14 y10))).bind fun z16 =>
 (loopN (σ := (Int × (List Int) × Unit)) (ρ := (Int × (List Int) × Unit)) (fun (i_17, data_18, _) =>
 Option.bind (α := ((List Int) × Unit) ⊕ ((Int × (List Int) × Unit) ⊕ (Int × (List Int) × Unit))) (
 (bif ((decide (i_17 ≤ (IntKind.i64.wrap (b_3 - ((1) : Int))))) == true) then ((idxN (data_18).length i_17).bind fun k19 =>
 ((atO data_18 k19 fun e20 => some e20)).bind fun y21 =>
 (idxN (data_18).length a_2).bind fun k22 =>
 ((atO data_18 k22 fun e23 => some e23)).bind fun y24 =>
 (e_cmp_Less_int n_ (y21, y24, ())).bind fun (r25, _) =>
 (bif r25 then (
 some (.inl (data_18, ()))) else (
 some (.inr (.inr (i_17, data_18, ())))))) else (some (.inr (.inr (i_17, data_18, ())))))) fun q => match q with
 | .inl (data_26, _) => (
 some (.inl ((IntKind.i64.wrap (i_17 + ((1) : Int))), data_26, ())))
 | .inr r => some r) n_ ((IntKind.i64.wrap (a_2 + ((1) : Int))), z16, ())).bind fun (i_27, data_28, _) =>
 (loopN (σ := (Int × (List Int) × Unit)) (ρ := (Int × (List Int) × Unit)) (fun (j_29, data_30, _) =>
 Option.bind (α := ((List Int) × Unit) ⊕ ((Int × (List Int) × Unit) ⊕ (Int × (List Int) × Unit))) (
 (bif ((decide (i_27 ≤ j_29)) == true) then ((idxN (data_30).length j_29).bind fun k31 =>
 ((atO data_30 k31 fun e32 => some e32)).bind fun y33 =>
 (idxN (data_30).length a_2).bind fun k34 =>
 ((atO data_30 k34 fun e35 => some e35)).bind fun y36 =>
 (e_cmp_Less_int n_ (y33, y36, ())).bind fun (r37, _) =>
 (bif (!r37) then (
 some (.inl (data_30, ()))) else (
 some (.inr (.inr (j_29, data_30, ())))))) else (some (.inr (.inr (j_29, data_30, ())))))) fun q => match q with
 | .inl (data_38, _) => (
 some (.inl ((IntKind.i64.wrap (j_29 - ((1) : Int))), data_38, ())))
 | .inr r => some r) n_ ((IntKind.i64.wrap (b_3 - ((1) : Int))), data_28, ())).bind fun (j_39, data_40, _) =>
 (bif (decide (i_27 > j_39)) then (
 (idxN (data_40).length a_2).bind fun k41 =>
 ((atO data_40 k41 fun e42 => some e42)).bind fun y43 =>
 (idxN (data_40).length j_39).bind fun k44 =>
 ((atO data_40 k44 fun e45 => some e45)).bind fun y46 =>
 (idxN (data_40).length j_39).bind fun k47 =>
 ((atO data_40 k47 fun _ => some ((data_40).set k47 y43))).bind fun z49 =>
 (idxN (z49).length a_2).bind fun k50 =>
 ((atO z49 k50 fun _ => some ((z49).set k50 y46))).bind fun z52 =>
 some (z52, j_39, true, ())) else (
 (idxN (data_40).length j_39).bind fun k53 =>
 ((atO data_40 k53 fun e54 => some e54)).bind fun y55 =>
 (idxN (data_40).length i_27).bind fun k56 =>
 ((atO data_40 k56 fun e57 => some e57)).bind fun y58 =>
 (idxN (data_40).length i_27).bind fun k59 =>
 ((atO data_40 k59 fun _ => some ((data_40).set k59 y55))).bind fun z61 =>
 (idxN (z61).length j_39).bind fun k62 =>
 ((atO z61 k62 fun _ => some ((z61).set k62 y58))).bind fun z64 =>
 (loopN (σ := (Int × Int × (List Int) × Unit)) (ρ := (Int × (List Int) × Unit)) (fun (i_65, j_66, data_67, _) =>
 (loopN (σ := (Int × (List Int) × Unit)) (ρ := (Int × (List Int) × Unit)) (fun (i_68, data_69, _) =>
 Option.bind (α := ((List Int) × Unit) ⊕ ((Int × (List Int) × Unit) ⊕ (Int × (List Int) × Unit))) (
 (bif ((decide (i_68 ≤ j_66)) == true) then ((idxN (data_69).length i_68).bind fun k70 =>
 ((atO data_69 k70 fun e71 => some e71)).bind fun y72 =>
 (idxN (data_69).length a_2).bind fun k73 =>
 ((atO data_69 k73 fun e74 => some e74)).bind fun y75 =>
 (e_cmp_Less_int n_ (y72, y75, ())).bind fun (r76, _) =>
 (bif r76 then (
 some (.inl (data_69, ()))) else (
 some (.inr (.inr (i_68, data_69, ())))))) else (some (.inr (.inr (i_68, data_69, ())))))) fun q => match q with
 | .inl (data_77, _) => (
 some (.inl ((IntKind.i64.wrap (i_68 + ((1) : Int))), data_77, ())))
 | .inr r => some r) n_ (i_65, data_67, ())).bind fun (i_78, data_79, _) =>
 (loopN (σ := (Int × (List Int) × Unit)) (ρ := (Int × (List Int) × Unit)) (fun (j_80, data_81, _) =>
 Option.bind (α := ((List Int) × Unit) ⊕ ((Int × (List Int) × Unit) ⊕ (Int × (List Int) × Unit))) (
 (bif ((decide (i_78 ≤ j_80)) == true) then ((idxN (data_81).length j_80).bind fun k82 =>
 ((atO data_81 k82 fun e83 => some e83)).bind fun y84 =>
 (idxN (data_81).length a_2).bind fun k85 =>
 ((atO data_81 k85 fun e86 => some e86)).bind fun y87 =>
 (e_cmp_Less_int n_ (y84, y87, ())).bind fun (r88, _) =>
 (bif (!r88) then (
 some (.inl (data_81, ()))) else (
 some (.inr (.inr (j_80, data_81, ())))))) else (some (.inr (.inr (j_80, data_81, ())))))) fun q => match q with
 | .inl (data_89, _) => (
 some (.inl ((IntKind.i64.wrap (j_80 - ((1) : Int))), data_89, ())))
 | .inr r => some r) n_ (j_66, data_79, ())).bind fun (j_90, data_91, _) =>
 (bif (decide (i_78 > j_90)) then (
 some (.inr (j_90, data_91, ()))) else (
 (idxN (data_91).length j_90).bind fun k92 =>
 ((atO data_91 k92 fun e93 => some e93)).bind fun y94 =>
 (idxN (data_91).length i_78).bind fun k95 =>
 ((atO data_91 k95 fun e96 => some e96)).bind fun y97 =>
 (idxN (data_91).length i_78).bind fun k98 =>
 ((atO data_91 k98 fun _ => some ((data_91).set k98 y94))).bind fun z100 =>
 (idxN (z100).length j_90).bind fun k101 =>
 ((atO z100 k101 fun _ => some ((z100).set k101 y97))).bind fun z103 =>
 some (.inl ((IntKind.i64.wrap (i_78 + ((1) : Int))), (IntKind.i64.wrap (j_90 - ((1) : Int))), z103, ()))))) n_ ((IntKind.i64.wrap (i_27 + ((1) : Int))), (IntKind.i64.wrap (j_39 - ((1) : Int))), z64, ())).bind fun (j_104, data_105, _) =>
 (idxN (data_105).length a_2).bind fun k106 =>
 ((atO data_105 k106 fun e107 => some e107)).bind fun y108 =>
 (idxN (data_105).length j_104).bind fun k109 =>
 ((atO data_105 k109 fun e110 => some e110)).bind fun y111 =>
 (idxN (data_105).length j_104).bind fun k112 =>
 ((atO data_105 k112 fun _ => some ((data_105).set k112 y108))).bind fun z114 =>
 (idxN (z114).length a_2).bind fun k115 =>
 ((atO z114 k115 fun _ => some ((z114).set k115 y111))).bind fun z117 =>
 some (z117, j_104, false, ())))
set_option maxHeartbeats 4000000 in
theorem le_slices_partitionOrdered_int (n_ : Nat) (a : ((List Int) × Int × Int × Int × Unit)) : Le (e_slices_partitionOrdered_int n_ a) (d_slices_partitionOrdered_int a) := by
 unfold e_slices_partitionOrdered_int d_slices_partitionOrdered_int
 repeat' (first | with_reducible exact Le.refl _ | with_reducible exact le_cmp_Less_int _ _ | (with_reducible refine Le.bind ?_ (fun y => ?_)) | (with_reducible refine Le.bif ?_ ?_) | (with_reducible refine Le.loop (fun s => ?_) _ _) | (with_reducible refine Le.atO (fun e => ?_)) | split)
noncomputable def e_slices_pdqsortOrdered_intq_s (n_ : Nat) (f_ : ((List Int) × Int × Int × Int × Unit) → Option ((List Int) × Unit)) : ((List Int) × Int × Int × Int × Unit) → Option ((List Int) × Unit) := fun (data_1, a_2, b_3, limit_4, _) =>
 (loopN (σ := (Int × Int × Int × Bool × Bool × (List Int) × Unit)) (ρ := ((List Int) × Unit)) (fun (a_5, b_6, limit_7, wasBalanced_8, wasPartitioned_9, data_10, _) =>
 (bif (decide ((IntKind.i64.wrap (b_6 - a_5)) ≤ ((12) : Int))) then (
 (e_slices_insertionSortOrdered_int n_ (data_10, a_5, b_6, ())).bind fun (m11, _) =>
 some (.inr (m11, ()))) else (
 (bif (limit_7 == ((0) : Int)) then (
 (e_slices_heapSortOrdered_int n_ (data_10, a_5, b_6, ())).bind fun (m12, _) =>
 some (.inr (m12, ()))) else (
 Option.bind (α := (Int × (List Int) × Unit)) (
 (bif (!wasBalanced_8) then (
 (e_slices_breakPatternsOrdered_int n_ (data_10, a_5, b_6, ())).bind fun (m13, _) =>
 some ((IntKind.i64.wrap (limit_7 - ((1) : Int))), m13, ())) else (
 some (limit_7, data_10, ())))) fun (limit_14, data_15, _) =>
 (e_slices_choosePivotOrdered_int n_ (data_15, a_5, b_6, ())).bind fun (r16, r17, _) =>
 Option.bind (α := (Int × Int × (List Int) × Unit)) (
 (bif (r17 == ((2) : Int)) then (
 (e_slices_reverseRangeOrdered_int n_ (data_15, a_5, b_6, ())).bind fun (m18, _) =>
 some ((IntKind.i64.wrap ((IntKind.i64.wrap (b_6 - ((1) : Int))) - (IntKind.i64.wrap (r16 - a_5)))), ((1) : Int), m18, ())) else (
 some (r16, r17, data_15, ())))) fun (pivot_19, hint_20, data_21, _) =>
 Option.bind (α := ((List Int) × Unit) ⊕ ((Int × Int × Int × Bool × Bool × (List Int) × Unit) ⊕ ((List Int) × Unit))) (
 Option.bind (α := (Bool × (List Int) × Unit)) (
 (bif (wasBalanced_8 == true) then ((bif (wasPartitioned_9 == true) then (some ((hint_20 == ((1) : Int)), data_21, ())) else (some (false, data_21, ())))) else (some (false, data_21, ())))) fun (s_22, data_23, _) =>
 (bif s_22 then (
 (e_slices_partialInsertionSortOrdered_int n_ (data_23, a_5, b_6, ())).bind fun (m24, r25, _) =>
 (bif r25 then (
 some (.inr (.inr (m24, ())))) else (
 some (.inl (m24, ()))))) else (
 some (.inl (data_23, ()))))) fun q => match q with
 | .inl (data_26, _) => (
 Option.bind (α := (Int × (List Int) × Unit) ⊕ ((Int × Int × Int × Bool × Bool × (List Int) × Unit) ⊕ ((List Int) × Unit))) (
 Option.bind (α := (Bool × (List Int) × Unit)) (
 (bif ((decide (a_5 > ((0) : Int))) == true) then ((idxN (data_26).length (IntKind.i64.wrap (a_5 - ((1) : Int)))).bind fun k27 =>
 ((atO data_26 k27 fun e28 => some e28)).bind fun y29 =>
 (idxN (data_26).length pivot_19).bind fun k30 =>
 ((atO data_26 k30 fun e31 => some e31)).bind fun y32 =>
 (e_cmp_Less_int n_ (y29, y32, ())).bind fun (r33, _) =>
 some ((!r33), data_26, ())) else (some (false, data_26, ())))) fun (s_34, data_35, _) =>
 (bif s_34 then (
 (e_slices_partitionEqualOrdered_int n_ (data_35, a_5, b_6, pivot_19, ())).bind fun (m36, r37, _) =>
 some (.inr (.inl (r37, b_6, limit_14, wasBalanced_8, wasPartitioned_9, m36, ())))) else (
 some (.inl (a_5, data_35, ()))))) fun q => match q with
 | .inl (a_38, data_39, _) => (
 (e_slices_partitionOrdered_int n_ (data_39, a_38, b_6, pivot_19, ())).bind fun (m40, r41, r42, _) =>
 (quoO IntKind.i64 (IntKind.i64.wrap (b_6 - a_5)) ((8) : Int)).bind fun y43 =>
 (bif (decide ((IntKind.i64.wrap (r41 - a_38)) < (IntKind.i64.wrap (b_6 - r41)))) then (
 (f_ (m40, a_38, r41, limit_14, ())).bind fun (m44, _) =>
 some (.inl ((IntKind.i64.wrap (r41 + ((1) : Int))), b_6, limit_14, (decide ((IntKind.i64.wrap (r41 - a_38)) ≥ y43)), r42, m44, ()))) else (
 (f_ (m40, (IntKind.i64.wrap (r41 + ((1) : Int))), b_6, limit_14, ())).bind fun (m45, _) =>
 some (.inl (a_38, r41, limit_14, (decide ((IntKind.i64.wrap (b_6 - r41)) ≥ y43)), r42, m45, ())))))
 | .inr r => some r)
 | .inr r => some r))))) n_ (a_2, b_3, limit_4, true, true, data_1, ())).bind some
set_option maxHeartbeats 4000000 in
theorem le_slices_pdqsortOrdered_intq_s (n_ : Nat) (f_ fb_ : ((List Int) × Int × Int × Int × Unit) → Option ((List Int) × Unit)) (h_ : ∀ a, Le (f_ a) (fb_ a)) (a : ((List Int) × Int × Int × Int × Unit)) : Le (e_slices_pdqsortOrdered_intq_s n_ f_ a) (r_slices_pdqsortOrdered_intq_s fb_ a) := by
 unfold e_slices_pdqsortOrdered_intq_s r_slices_pdqsortOrdered_intq_s
 repeat' (first | with_reducible exact Le.refl _ | with_reducible exact le_cmp_Less_int _ _ | with_reducible exact le_slices_insertionSortOrdered_int _ _ | with_reducible exact le_slices_heapSortOrdered_int _ _ | with_reducible exact le_slices_breakPatternsOrdered_int _ _ | with_reducible exact le_slices_choosePivotOrdered_int _ _ | with_reducible exact le_slices_reverseRangeOrdered_int _ _ | with_reducible exact le_slices_partialInsertionSortOrdered_int _ _ | with_reducible exact le_slices_partitionEqualOrdered_int _ _ | with_reducible exact le_slices_partitionOrdered_int _ _ | with_reducible exact h_ _ | (with_reducible refine Le.bind ?_ (fun y => ?_)) | (with_reducible refine Le.bif ?_ ?_) | (with_reducible refine Le.loop (fun s => ?_) _ _) | (with_reducible refine Le.atO (fun e => ?_)) | split)
noncomputable def e_slices_pdqsortOrdered_int (n_ : Nat) : ((List Int) × Int × Int × Int × Unit) → Option ((List Int) × Unit) := deep (e_slices_pdqsortOrdered_intq_s n_) n_
theorem le_slices_pdqsortOrdered_int (n_ : Nat) (a : ((List Int) × Int × Int × Int × Unit)) : Le (e_slices_pdqsortOrdered_int n_ a) (d_slices_pdqsortOrdered_int a) := Le.deep (le_slices_pdqsortOrdered_intq_s n_) r_slices_pdqsortOrdered_intq_mono n_ a
noncomputable def e_slices_Sort_int_int (n_ : Nat) : ((List Int) × Unit) → Option ((List Int) × Unit) := fun (x_1, _) =>
 (e_math_bits_Len n_ ((IntKind.u64.wrap (((x_1).length : Nat) : Int)), ())).bind fun (r2, _) =>
 (e_slices_pdqsortOrdered_int n_ (x_1, ((0) : Int), (((x_1).length : Nat) : Int), r2, ())).bind fun (m3, _) =>
 some (m3, ())
set_option maxHeartbeats 4000000 in
theorem le_slices_Sort_int_int (n_ : Nat) (a : ((List Int) × Unit)) : Le (e_slices_Sort_int_int n_ a) (d_slices_Sort_int_int a) := by
 unfold e_slices_Sort_int_int d_slices_Sort_int_int
 repeat' (first | with_reducible exact Le.refl _ | with_reducible exact le_slices_pdqsortOrdered_int _ _ | with_reducible exact le_math_bits_Len _ _ | (with_reducible refine Le.bind ?_ (fun y => ?_)) | (with_reducible refine Le.bif ?_ ?_) | (with_reducible refine Le.loop (fun s => ?_) _ _) | (with_reducible refine Le.atO (fun e => ?_)) | split)
noncomputable def e_graph_twice (n_ : Nat) : List Int × Unit → Option (Bool × Unit) := fun a => (twSem (fun l => (e_slices_Sort_int_int n_ (l, ())).map fun r => r.1) a.1).map fun b => (b, ())
theorem le_graph_twice (n_ : Nat) (a : List Int × Unit) : Le (e_graph_twice n_ a) (d_graph_twice a) := twSem_le (fun l => le_slices_Sort_int_int n_ (l, ())) a
noncomputable def e_graph_Permuted_1q_q0 (n_ : Nat) : (Int × (Option ((List (List Int)) × Unit)) × Unit) → Option (Bool × Unit) := fun (v_1, p_2, _) =>
 (p_2).bind fun y3 =>
 (e_graph_vertex n_ (y3, v_1, ())).bind fun (r4, _) =>
 some ((!r4), ())
set_option maxHeartbeats 4000000 in
theorem le_graph_Permuted_1q_q0 (n_ : Nat) (a : (Int × (Option ((List (List Int)) × Unit)) × Unit)) : Le (e_graph_Permuted_1q_q0 n_ a) (d_graph_Permuted_1q_q0 a) := by
 unfold e_graph_Permuted_1q_q0 d_graph_Permuted_1q_q0
 repeat' (first | with_reducible exact Le.refl _ | with_reducible exact le_graph_vertex _ _ | (with_reducible refine Le.bind ?_ (fun y => ?_)) | (with_reducible refine Le.bif ?_ ?_) | (with_reducible refine Le.loop (fun s => ?_) _ _) | (with_reducible refine Le.atO (fun e => ?_)) | split)
noncomputable def e_slices_IndexFunc_int_int_q0 (n_ : Nat) : ((List Int) × ((Option ((List (List Int)) × Unit)) × Unit) × Unit) → Option (Int × Unit) := fun (s_1, f_2, _) =>
 (loopN (σ := (Int × Unit)) (ρ := (Unit ⊕ (Int × Unit))) (fun (s_3, _) =>
 (bif (decide (s_3 < (((s_1).length : Nat) : Int))) then (
 (getI s_1 s_3).bind fun y4 =>
 (e_graph_Permuted_1q_q0 n_ (y4, f_2.1, ())).bind fun (r5, _) =>
 (bif r5 then (
 some (.inr (.inr (s_3, ())))) else (
 some (.inl ((IntKind.i64.wrap (s_3 + ((1) : Int))), ()))))) else (
 some (.inr (.inl ()))))) n_ (((0) : Int), ())).bind fun q => match q with
 | .inl _ => (
 some ((-1 : Int), ()))
 | .inr r => some r
set_option maxHeartbeats 4000000 in
theorem le_slices_IndexFunc_int_int_q0 (n_ : Nat) (a : ((List Int) × ((Option ((List (List Int)) × Unit)) × Unit) × Unit)) : Le (e_slices_IndexFunc_int_int_q0 n_ a) (d_slices_IndexFunc_int_int_q0 a) := by
 unfold e_slices_IndexFunc_int_int_q0 d_slices_IndexFunc_int_int_q0
 repeat' (first | with_reducible exact Le.refl _ | with_reducible exact le_graph_Permuted_1q_q0 _ _ | (with_reducible refine Le.bind ?_ (fun y => ?_)) | (with_reducible refine Le.bif ?_ ?_) | (with_reducible refine Le.loop (fun s => ?_) _ _) | (with_reducible refine Le.atO (fun e => ?_)) | split)
noncomputable def e_slices_ContainsFunc_int_int_q0 (n_ : Nat) : ((List Int) × ((Option ((List (List Int)) × Unit)) × Unit) × Unit) → Option (Bool × Unit) := fun (s_1, f_2, _) =>
 (e_slices_IndexFunc_int_int_q0 n_ (s_1, (f_2.1, ()), ())).bind fun (r3, _) =>
 some ((decide (r3 ≥ ((0) : Int))), ())
set_option maxHeartbeats 4000000 in
theorem le_slices_ContainsFunc_int_int_q0 (n_ : Nat) (a : ((List Int) × ((Option ((List (List Int)) × Unit)) × Unit) × Unit)) : Le (e_slices_ContainsFunc_int_int_q0 n_ a) (d_slices_ContainsFunc_int_int_q0 a) := by
 unfold e_slices_ContainsFunc_int_int_q0 d_slices_ContainsFunc_int_int_q0
 repeat' (first | with_reducible exact Le.refl _ | with_reducible exact le_slices_IndexFunc_int_int_q0 _ _ | (with_reducible refine Le.bind ?_ (fun y => ?_)) | (with_reducible refine Le.bif ?_ ?_) | (with_reducible refine Le.loop (fun s => ?_) _ _) | (with_reducible refine Le.atO (fun e => ?_)) | split)
noncomputable def e_graph_Permuted (n_ : Nat) : (((List (List Int)) × Unit) × (List Int) × Unit) → Option (Int × Unit) := fun (g_1, order_2, _) =>
 (e_graph_Check n_ (g_1, ())).bind fun (r3, _) =>
 (bif (r3 != ((0) : Int)) then (
 some (r3, ())) else (
 (bif ((((order_2).length : Nat) : Int) != (((g_1.1).length : Nat) : Int)) then (
 some (((2) : Int), ())) else (
 (e_slices_ContainsFunc_int_int_q0 n_ (order_2, ((some g_1), ()), ())).bind fun (r4, _) =>
 (bif (r4 == false) then ((e_graph_twice n_ (order_2, ())).bind fun (r5, _) =>
 (bif r5 then (
 some (((90) : Int), ())) else (
 some (((0) : Int), ())))) else (some (((90) : Int), ())))))))
set_option maxHeartbeats 4000000 in
theorem le_graph_Permuted (n_ : Nat) (a : (((List (List Int)) × Unit) × (List Int) × Unit)) : Le (e_graph_Permuted n_ a) (d_graph_Permuted a) := by
 unfold e_graph_Permuted d_graph_Permuted
 repeat' (first | with_reducible exact Le.refl _ | with_reducible exact le_slices_ContainsFunc_int_int_q0 _ _ | with_reducible exact le_graph_Check _ _ | with_reducible exact le_graph_twice _ _ | (with_reducible refine Le.bind ?_ (fun y => ?_)) | (with_reducible refine Le.bif ?_ ?_) | (with_reducible refine Le.loop (fun s => ?_) _ _) | (with_reducible refine Le.atO (fun e => ?_)) | split)
noncomputable def e_mindeg_Degrees (n_ : Nat) : (((List (List Int)) × Unit) × (List Int) × Unit) → Option ((List Int) × Int × Unit) := fun (g_1, order_2, _) =>
 (e_graph_Permuted n_ (g_1, order_2, ())).bind fun (r14, _) =>
 (bif (r14 != ((0) : Int)) then (
 some ([], r14, ())) else (
 (e_mindeg_Start n_ (g_1, ())).bind fun (r15, _) =>
 (loopN (σ := (Int × ((List (List Bool)) × ((List Bool) × Unit)) × (List Int) × Unit)) (ρ := ((List Int) × Unit)) (fun (s_16, x_17, out_18, _) =>
 (bif (decide (s_16 < (((order_2).length : Nat) : Int))) then (
 (getI order_2 s_16).bind fun y19 =>
 (e_mindeg_Elimination_Eliminate n_ (x_17, y19, ())).bind fun (m20, r21, _) =>
 (limO ((out_18).length + ([(((r21).length : Nat) : Int)]).length)).bind fun _ =>
 some (.inl ((IntKind.i64.wrap (s_16 + ((1) : Int))), m20, (out_18 ++ [(((r21).length : Nat) : Int)]), ()))) else (
 some (.inr (out_18, ()))))) n_ (((0) : Int), r15, [], ())).bind fun (out_22, _) =>
 some (out_22, ((0) : Int), ())))
set_option maxHeartbeats 4000000 in
theorem le_mindeg_Degrees (n_ : Nat) (a : (((List (List Int)) × Unit) × (List Int) × Unit)) : Le (e_mindeg_Degrees n_ a) (d_mindeg_Degrees a) := by
 unfold e_mindeg_Degrees d_mindeg_Degrees
 repeat' (first | with_reducible exact Le.refl _ | with_reducible exact le_mindeg_Start _ _ | with_reducible exact le_mindeg_Elimination_Eliminate _ _ | with_reducible exact le_graph_Permuted _ _ | (with_reducible refine Le.bind ?_ (fun y => ?_)) | (with_reducible refine Le.bif ?_ ?_) | (with_reducible refine Le.loop (fun s => ?_) _ _) | (with_reducible refine Le.atO (fun e => ?_)) | split)
noncomputable def e_sparselaw16q_awake (n_ : Nat) : Unit → Option (Bool × Unit) := fun _ =>
 (e_mindeg_Exact n_ (([[((1) : Int), ((2) : Int), ((3) : Int)], [((0) : Int)], [((0) : Int)], [((0) : Int)]], ()), ())).bind fun (r1, r2, _) =>
 (e_mindeg_Degrees n_ (([[((1) : Int), ((2) : Int), ((3) : Int)], [((0) : Int)], [((0) : Int)], [((0) : Int)]], ()), [((0) : Int), ((1) : Int), ((2) : Int), ((3) : Int)], ())).bind fun (r3, r4, _) =>
 (bif ((r2 == ((0) : Int)) == true) then ((bif ((r4 == ((0) : Int)) == true) then ((e_sparsekit_Ints n_ (r1, [((1) : Int), ((2) : Int), ((0) : Int), ((3) : Int)], ())).bind fun (r5, _) =>
 (bif (r5 == true) then ((e_sparsekit_Ints n_ (r3, [((3) : Int), ((2) : Int), ((1) : Int), ((0) : Int)], ())).bind fun (r6, _) =>
 some (r6, ())) else (some (false, ())))) else (some (false, ())))) else (some (false, ())))
set_option maxHeartbeats 4000000 in
theorem le_sparselaw16q_awake (n_ : Nat) (a : Unit) : Le (e_sparselaw16q_awake n_ a) (d_sparselaw16q_awake a) := by
 unfold e_sparselaw16q_awake d_sparselaw16q_awake
 repeat' (first | with_reducible exact Le.refl _ | with_reducible exact le_mindeg_Exact _ _ | with_reducible exact le_mindeg_Degrees _ _ | with_reducible exact le_sparsekit_Ints _ _ | (with_reducible refine Le.bind ?_ (fun y => ?_)) | (with_reducible refine Le.bif ?_ ?_) | (with_reducible refine Le.loop (fun s => ?_) _ _) | (with_reducible refine Le.atO (fun e => ?_)) | split)
end Go.Fw
theorem Go.Fw.awake16 : Go.Fw.d_sparselaw16q_awake () = some (true, ()) := Go.Fw.le_sparselaw16q_awake 20 () _ (by decide +kernel)
end
section
namespace Go.Fw
open Go
noncomputable def dgS (adj : List (List Int)) (S : Nat → Prop) (v : Nat) : Nat := ((List.range adj.length).filter (bT adj S v)).length
def IsLst (adj : List (List Int)) (S : Nat → Prop) (m v : Nat) : Prop := v < m ∧ ¬ S v ∧ ∀ w, w < m → ¬ S w → dgS adj S v < dgS adj S w ∨ (dgS adj S v = dgS adj S w ∧ v ≤ w)
theorem IsLst.uniq {adj : List (List Int)} {S : Nat → Prop} {m v v' : Nat} (h : IsLst adj S m v) (h' : IsLst adj S m v') : v = v' := by
 have h1 := h.2.2 v' h'.1 h'.2.1
 have h2 := h'.2.2 v h.1 h.2.1
 omega
def Sc (adj : List (List Int)) (S : Nat → Prop) (m : Nat) (b l : Int) : Prop := (b = -1 ∧ l = 0 ∧ ∀ w, w < m → S w) ∨ ∃ v : Nat, b = (v : Int) ∧ l = (dgS adj S v : Int) ∧ IsLst adj S m v
theorem Sc.take {adj : List (List Int)} {S : Nat → Prop} {m : Nat} {b l : Int} (h : Sc adj S m b l) (hm : ¬ S m) (hc : b < 0 ∨ (dgS adj S m : Int) < l) : Sc adj S (m + 1) (m : Int) (dgS adj S m : Int) := by
 refine .inr ⟨m, rfl, rfl, by omega, hm, fun w hw hS => ?_⟩
 by_cases e : w = m
 ·subst e; exact .inr ⟨rfl, Nat.le_refl _⟩
 ·rcases h with ⟨_, _, h⟩ | ⟨v, rfl, rfl, h1, h2, h3⟩
  ·exact absurd (h w (by omega)) hS
  ·have := h3 w (by omega) hS
   omega
theorem Sc.skip {adj : List (List Int)} {S : Nat → Prop} {m : Nat} {b l : Int} (h : Sc adj S m b l) (hc : S m ∨ (¬ b < 0 ∧ ¬ (dgS adj S m : Int) < l)) : Sc adj S (m + 1) b l := by
 rcases h with ⟨rfl, rfl, h⟩ | ⟨v, rfl, rfl, h1, h2, h3⟩
 ·refine .inl ⟨rfl, rfl, fun w hw => ?_⟩
  by_cases e : w = m
  ·subst e; exact hc.resolve_right (by omega)
  ·exact h w (by omega)
 ·refine .inr ⟨v, rfl, rfl, by omega, h2, fun w hw hS => ?_⟩
  by_cases e : w = m
  ·subst e
   have := hc.resolve_left hS
   omega
  ·exact h3 w (by omega) hS
theorem Sc.done {adj : List (List Int)} {S : Nat → Prop} {m : Nat} {b l : Int} (h : Sc adj S m b l) (hex : ∃ w, w < m ∧ ¬ S w) : ∃ v : Nat, b = (v : Int) ∧ IsLst adj S m v := by
 rcases h with ⟨_, _, h⟩ | ⟨v, h1, _, h2⟩
 ·obtain ⟨w, h3, h4⟩ := hex
  exact absurd (h w h3) h4
 ·exact ⟨v, h1, h2⟩
open Classical in
noncomputable def mdK (adj : List (List Int)) : Nat → List Nat
 | 0 => []
 | k + 1 => mdK adj k ++ [if h : ∃ v, IsLst adj (fun x => x ∈ mdK adj k) adj.length v then h.choose else 0]
theorem mdK_succ {adj : List (List Int)} {k v : Nat} (h : IsLst adj (fun x => x ∈ mdK adj k) adj.length v) : mdK adj (k + 1) = mdK adj k ++ [v] := by
 have hex : ∃ v, IsLst adj (fun x => x ∈ mdK adj k) adj.length v := ⟨v, h⟩
 simp only [mdK]
 rw [dif_pos hex, hex.choose_spec.uniq h]
theorem mdK_length (adj : List (List Int)) : ∀ k, (mdK adj k).length = k
 | 0 => rfl
 | k + 1 => by simp only [mdK, List.length_append, mdK_length adj k, List.length_singleton]
section
variable {adj : List (List Int)}
theorem ex_left {L : List Nat} (h : L.length < adj.length) : ∃ w, w < adj.length ∧ ¬ w ∈ L := by
 apply Classical.byContradiction
 intro hno
 have := subset_le (l := List.range adj.length) (m := L) List.nodup_range fun x hx => Classical.byContradiction fun hx2 => hno ⟨x, List.mem_range.1 hx, hx2⟩
 rw [List.length_range] at this
 omega
theorem lst_ex {S : Nat → Prop} : ∀ m, (∃ w, w < m ∧ ¬ S w) → ∃ v : Nat, IsLst adj S m v := by
 classical
 have key : ∀ m, ∃ b l, Sc adj S m b l := by
  intro m
  induction m with
  | zero => exact ⟨-1, 0, .inl ⟨rfl, rfl, fun w h => by omega⟩⟩
  | succ m ih =>
    obtain ⟨b, l, h⟩ := ih
    by_cases hm : S m
    ·exact ⟨_, _, h.skip (.inl hm)⟩
    ·by_cases hc : b < 0 ∨ (dgS adj S m : Int) < l
     ·exact ⟨_, _, h.take hm hc⟩
     ·exact ⟨_, _, h.skip (.inr ⟨fun h => hc (.inl h), fun h => hc (.inr h)⟩)⟩
 intro m h
 obtain ⟨b, l, h2⟩ := key m
 obtain ⟨v, _, h3⟩ := h2.done h
 exact ⟨v, h3⟩
theorem mdK_lst {k : Nat} (hk : k < adj.length) : ∃ v, IsLst adj (fun x => x ∈ mdK adj k) adj.length v ∧ mdK adj (k + 1) = mdK adj k ++ [v] := by
 obtain ⟨v, h⟩ := lst_ex (adj := adj) (S := fun x => x ∈ mdK adj k) adj.length (ex_left (by rw [mdK_length]; exact hk))
 exact ⟨v, h, mdK_succ h⟩
variable (hV : Valid adj) (hn : adj.length ≤ 200)
include hV hn
theorem Exact_eq : d_mindeg_Exact ((adj, ()), ()) = some (natL (mdK adj adj.length), 0, ()) := by
 classical
 have h0 : chk adj = 0 := chk_zero.2 ⟨hn, hV⟩
 unfold d_mindeg_Exact
 simp only [Check_eq adj (hV.hc hn), h0, Option.bind_some, bne_self_eq_false, cond_false, Start_eq hV hn]
 have e0 : (fun _ : Nat => False) = fun x => x ∈ mdK adj 0 := by funext x; simp [mdK]
 refine bindR (natL (mdK adj adj.length), ()) rfl (loop_for adj.length (fun k => ((mT adj.length (bT adj (fun x => x ∈ mdK adj k)), (fT adj.length (fun x => decide (x ∈ mdK adj k)), ())), natL (mdK adj k), ())) 0 rfl ?_ (Nat.zero_le _) ?_ ?_)
 ·rw [e0]
  refine congrArg (fun t => ((mT adj.length (bT adj fun x => x ∈ mdK adj 0), (t, ())), ([] : List Int), ())) (fT_congr fun x _ => ?_)
  simp [mdK]
 ·intro k _ hk
  obtain ⟨v, hv, hnx⟩ := mdK_lst (adj := adj) hk
  have hS := fun (a : Nat) => (List.mem_append (a := a) (s := mdK adj k) (t := [v]))
  have hlen : (natL (mdK adj k)).length + [(v : Int)].length ≤ 4294967296 := by rw [natL_length, mdK_length, List.length_singleton]; omega
  have hstep : (fun x => x ∈ mdK adj k ∨ x = v) = fun x => x ∈ mdK adj (k + 1) := by
   funext x
   rw [hnx, List.mem_append, List.mem_singleton]
  simp (disch := omega) only [cond_dec, if_pos]
  refine bindR ((v : Int), (mT adj.length (bT adj (fun x => x ∈ mdK adj k)), (fT adj.length (fun x => decide (x ∈ mdK adj k)), ())), natL (mdK adj k), ()) ?_ ?_
  ·simp only [elim_mT (show adj.length ≤ 4294967296 by omega) hv.1 (bT_symm hV) (bT_self _), Option.bind_some, limO_ok hlen]
   rw [mT_congr (fun a b _ _ => bT_next hV hv.2.1 a b), hstep, wrap_inc (by omega), hnx, natL_append]
   refine congrArg (fun t => some (Sum.inl (((k + 1 : Nat) : Int), (mT adj.length (bT adj (fun x => x ∈ mdK adj k ++ [v])), (t, ())), natL (mdK adj k) ++ [(v : Int)], ()))) (fT_congr fun x _ => ?_)
   unfold upd
   by_cases h : x = v
   ·subst h; simp
   ·simp [h]
  ·rw [← Ok.eq_iff]
   refine Ok.seq adj.length (fun i s => ∃ b l, s = (b, l, (i : Int), (mT adj.length (bT adj (fun x => x ∈ mdK adj k)), (fT adj.length (fun x => decide (x ∈ mdK adj k)), ())), natL (mdK adj k), ()) ∧ Sc adj (fun x => x ∈ mdK adj k) i b l) 0 ⟨-1, 0, rfl, .inl ⟨rfl, rfl, fun w h => by omega⟩⟩ (Nat.zero_le _) ?_ ?_
   ·rintro i _ _ hi ⟨b, l, rfl, hsc⟩
    have hdl : (natL ((List.range adj.length).filter (bT adj (fun x => x ∈ mdK adj k) i))).length = dgS adj (fun x => x ∈ mdK adj k) i := natL_length _
    simp (disch := omega) only [cond_dec, if_pos, List_eq (show adj.length ≤ 4294967296 by omega) hi, Option.bind_some, fT_length, idxN_nat, atO_fT, hdl]
    by_cases hm : i ∈ mdK adj k
    ·simp (disch := omega) only [decT hm, Bool.not_true, show (false == true) = false from rfl, cond_false, Option.bind_some, wrap_inc]
     exact Ok.some_iff.2 ⟨b, l, rfl, hsc.skip (.inl hm)⟩
    ·simp (disch := omega) only [decF hm, Bool.not_false, beq_self_eq_true, cond_true, Option.bind_some]
     by_cases hb : b < 0
     ·simp (disch := omega) only [decT hb, show (true == false) = false from rfl, cond_false, cond_true, Option.bind_some, wrap_inc]
      exact Ok.some_iff.2 ⟨_, _, rfl, hsc.take hm (.inl hb)⟩
     ·simp (disch := omega) only [decF hb, beq_self_eq_true, cond_true, Option.bind_some]
      by_cases hc : (dgS adj (fun x => x ∈ mdK adj k) i : Int) < l
      ·simp (disch := omega) only [decT hc, cond_true, Option.bind_some, wrap_inc]
       exact Ok.some_iff.2 ⟨_, _, rfl, hsc.take hm (.inr hc)⟩
      ·simp (disch := omega) only [decF hc, cond_false, Option.bind_some, wrap_inc]
       exact Ok.some_iff.2 ⟨b, l, rfl, hsc.skip (.inr ⟨hb, hc⟩)⟩
   ·rintro _ ⟨b, l, rfl, hsc⟩
    obtain ⟨u, rfl, hu⟩ := hsc.done ⟨v, hv.1, hv.2.1⟩
    simp (disch := omega) only [cond_dec, if_neg]
    exact Ok.some_iff.2 (by rw [hu.uniq hv])
 ·simp (disch := omega) only [cond_dec, if_neg]
end
end Go.Fw
end
section
namespace Go.Fw
open Go
section
variable {adj : List (List Int)}
theorem nbr_dg {S : Nat → Prop} {T : List (List Bool)} {gone : List Bool} (hE : Elim adj S T gone) {v : Nat} (hv : v < adj.length) (hS : ¬ S v) : nbrV T gone v adj.length = natL ((List.range adj.length).filter (bT adj S v)) := by
 refine sorted_ext (nbrV_asc ..) (sorted_filter _ _) fun x => ?_
 constructor
 ·intro hx
  obtain ⟨w, rfl, hw⟩ := nbrV_rng hx
  obtain ⟨h1, h2, h3, h4⟩ := (mem_nbrV hE hv hS).1 hx
  exact mem_natL.2 (List.mem_filter.2 ⟨List.mem_range.2 h1, bT_iff.2 ⟨h3, hS, h2, h4⟩⟩)
 ·intro hx
  obtain ⟨w, hw, rfl⟩ := List.mem_map.1 hx
  obtain ⟨h1, h2⟩ := List.mem_filter.1 hw
  obtain ⟨b1, b2, b3, b4⟩ := bT_iff.1 h2
  exact (mem_nbrV hE hv hS).2 ⟨List.mem_range.1 h1, b3, b1, b4⟩
variable (hV : Valid adj) (hn : adj.length ≤ 200)
include hV hn
theorem refExact_eq : d_sparseref16q_Exact ((adj, ()), ()) = some (natL (mdK adj adj.length), 0, ()) := by
 classical
 have h0 : chk adj = 0 := chk_zero.2 ⟨hn, hV⟩
 rw [← Ok.eq_iff]
 unfold d_sparseref16q_Exact
 simp only [refCheck_eq adj (hV.hc hn), Option.bind_some, h0, bne_self_eq_false, cond_false]
 refine Ok.bind_of (Begin_ok hV (hV.hc hn) hn) ?_
 rintro ⟨⟨T, gone, ⟨⟩⟩, ⟨⟩⟩ hE
 simp only at hE
 have e0 : (fun _ : Nat => False) = fun x => x ∈ mdK adj 0 := by funext x; simp [mdK]
 rw [e0] at hE
 refine Ok.bind_of (P := fun r => r = (natL (mdK adj adj.length), ())) ?_ (by rintro _ rfl; exact Ok.some_iff.2 rfl)
 refine Ok.seq adj.length (fun k s => ∃ T gone, s = ((T, gone, ()), natL (mdK adj k), ()) ∧ Elim adj (fun x => x ∈ mdK adj k) T gone) 0 ⟨T, gone, rfl, hE⟩ (Nat.zero_le _) ?_ ?_
 ·rintro k _ _ hk ⟨T, gone, rfl, hE⟩
  obtain ⟨v, hv, hnx⟩ := mdK_lst (adj := adj) hk
  have hlen : (natL (mdK adj k)).length + [(v : Int)].length ≤ 4294967296 := by rw [natL_length, mdK_length, List.length_singleton]; omega
  have hkl : (natL (mdK adj k)).length = k := by rw [natL_length, mdK_length]
  have hstep : (fun x => x ∈ mdK adj k ∨ x = v) = fun x => x ∈ mdK adj (k + 1) := by
   funext x
   rw [hnx, List.mem_append, List.mem_singleton]
  simp (disch := omega) only [hkl, cond_dec, if_pos]
  refine Ok.bind_of (P := fun r => r = ((v : Int), (T, gone, ()), natL (mdK adj k), ())) ?_ ?_
  ·refine Ok.seq adj.length (fun i s => ∃ b l, s = (b, l, (i : Int), (T, gone, ()), natL (mdK adj k), ()) ∧ Sc adj (fun x => x ∈ mdK adj k) i b l) 0 ⟨-1, 0, rfl, .inl ⟨rfl, rfl, fun w h => by omega⟩⟩ (Nat.zero_le _) ?_ ?_
   ·rintro i _ _ hi ⟨b, l, rfl, hsc⟩
    have hgl : i < gone.length := by rw [hE.gl]; exact hi
    have hga : gone[i]? = some gone[i] := List.getElem?_eq_getElem hgl
    have hgi := hE.gi i hgl
    simp (disch := omega) only [cond_dec, if_pos, Neighbours_eq hE.tl hE.rows hE.gl (by omega) hi, Option.bind_some, hE.gl, idxN_nat, atO_some hga]
    by_cases hm : i ∈ mdK adj k
    ·simp (disch := omega) only [hgi.2 hm, Bool.not_true, show (false == true) = false from rfl, cond_false, Option.bind_some, wrap_inc]
     exact Ok.some_iff.2 ⟨b, l, rfl, hsc.skip (.inl hm)⟩
    ·have hgf : gone[i] = false := by rw [Bool.eq_false_iff]; exact fun h => hm (hgi.1 h)
     have hdl : (nbrV T gone i adj.length).length = dgS adj (fun x => x ∈ mdK adj k) i := by rw [nbr_dg hE hi hm, natL_length]; rfl
     simp (disch := omega) only [hgf, hdl, Bool.not_false, beq_self_eq_true, cond_true, Option.bind_some]
     by_cases hb : b < 0
     ·simp (disch := omega) only [decT hb, show (true == false) = false from rfl, cond_false, cond_true, Option.bind_some, wrap_inc]
      exact Ok.some_iff.2 ⟨_, _, rfl, hsc.take hm (.inl hb)⟩
     ·simp (disch := omega) only [decF hb, beq_self_eq_true, cond_true, Option.bind_some]
      by_cases hc : (dgS adj (fun x => x ∈ mdK adj k) i : Int) < l
      ·simp (disch := omega) only [decT hc, cond_true, Option.bind_some, wrap_inc]
       exact Ok.some_iff.2 ⟨_, _, rfl, hsc.take hm (.inr hc)⟩
      ·simp (disch := omega) only [decF hc, cond_false, Option.bind_some, wrap_inc]
       exact Ok.some_iff.2 ⟨b, l, rfl, hsc.skip (.inr ⟨hb, hc⟩)⟩
   ·rintro _ ⟨b, l, rfl, hsc⟩
    obtain ⟨u, rfl, hu⟩ := hsc.done ⟨v, hv.1, hv.2.1⟩
    simp (disch := omega) only [cond_dec, if_neg]
    exact Ok.some_iff.2 (by rw [hu.uniq hv])
  ·rintro _ rfl
   refine Ok.bind_of (Eliminate_ok hV (by omega) hE hv.1 hv.2.1) ?_
   rintro ⟨⟨T2, gone2, ⟨⟩⟩, ⟨⟩⟩ hE2
   simp only at hE2
   rw [hstep] at hE2
   simp only [limO_ok hlen, Option.bind_some]
   refine Ok.some_iff.2 ⟨T2, gone2, ?_, hE2⟩
   rw [hnx, natL_append]; rfl
 ·rintro _ ⟨T, gone, rfl, hE⟩
  have hkl : (natL (mdK adj adj.length)).length = adj.length := by rw [natL_length, mdK_length]
  simp (disch := omega) only [hkl, cond_dec, if_neg]
  exact Ok.some_iff.2 rfl
end
end Go.Fw
end
section
namespace Go.Fw
open Go
theorem asc_uniq {α : Type} : ∀ {l m : List (Int × α)}, l.Pairwise (fun a b => a.1 < b.1) → m.Pairwise (fun a b => a.1 < b.1) → (∀ x, x ∈ l ↔ x ∈ m) → l = m
 | [], [], _, _, _ => rfl
 | [], y :: m, _, _, h => by have := (h y).2 (by simp); cases this
 | x :: l, [], _, _, h => by have := (h x).1 (by simp); cases this
 | x :: l, y :: m, hl, hm, h => by
     rw [List.pairwise_cons] at hl hm
     have e : x = y := by
      rcases List.mem_cons.1 ((h x).1 (by simp)) with e | h1
      ·exact e
      ·rcases List.mem_cons.1 ((h y).2 (by simp)) with e | h2
       ·exact e.symm
       ·have := hl.1 y h2
        have := hm.1 x h1
        omega
     subst e
     rw [asc_uniq hl.2 hm.2 fun z => ?_]
     constructor
     ·intro hz
      rcases List.mem_cons.1 ((h z).1 (List.mem_cons_of_mem _ hz)) with e | h1
      ·subst e; have := hl.1 _ hz; omega
      ·exact h1
     ·intro hz
      rcases List.mem_cons.1 ((h z).2 (List.mem_cons_of_mem _ hz)) with e | h1
      ·subst e; have := hm.1 _ hz; omega
      ·exact h1
def sL (n : Nat) (P : Nat → Bool) : List (Int × Bool) := ((List.range n).filter P).map fun (w : Nat) => ((w : Int), true)
def sM (n : Nat) (P : Nat → Bool) (c : Nat) : Option (List (Int × Bool) × Nat) := some (sL n P, c)
theorem mem_sL {n : Nat} {P : Nat → Bool} {x : Int × Bool} : x ∈ sL n P ↔ ∃ w : Nat, w < n ∧ P w = true ∧ x = ((w : Int), true) := by
 unfold sL
 rw [List.mem_map]
 constructor
 ·rintro ⟨w, hw, rfl⟩
  rw [List.mem_filter, List.mem_range] at hw
  exact ⟨w, hw.1, hw.2, rfl⟩
 ·rintro ⟨w, h1, h2, rfl⟩
  exact ⟨w, by rw [List.mem_filter, List.mem_range]; exact ⟨h1, h2⟩, rfl⟩
theorem sL_asc (n : Nat) (P : Nat → Bool) : (sL n P).Pairwise (fun a b => a.1 < b.1) := by
 unfold sL
 rw [List.pairwise_map]
 refine List.Pairwise.imp ?_ ((List.pairwise_lt_range (n := n)).sublist List.filter_sublist)
 intro a b h
 show (a : Int) < (b : Int)
 omega
theorem sL_congr {n : Nat} {P Q : Nat → Bool} (h : ∀ v, v < n → P v = Q v) : sL n P = sL n Q := by
 unfold sL; rw [List.filter_congr fun v hv => h v (List.mem_range.1 hv)]
theorem sM_congr {n c c' : Nat} {P Q : Nat → Bool} (h : ∀ v, v < n → P v = Q v) (hc : c = c') : sM n P c = sM n Q c' := by
 unfold sM; rw [sL_congr h, hc]
theorem sL_length (n : Nat) (P : Nat → Bool) : (sL n P).length = nB n P := by simp [sL, nB]
theorem mGet_sL {n : Nat} {P : Nat → Bool} {w : Nat} (hw : w < n) : mGet (sL n P) (w : Int) = if P w = true then some true else none := by
 have hn := sorted_nd (sL_asc n P)
 by_cases h : P w = true
 ·rw [if_pos h, mGet_iff hn, mem_sL]
  exact ⟨w, hw, h, rfl⟩
 ·rw [if_neg h]
  cases hg : mGet (sL n P) (w : Int) with
  | none => rfl
  | some v =>
    rw [mGet_iff hn, mem_sL] at hg
    obtain ⟨u, _, h2, h3⟩ := hg
    simp only [Prod.mk.injEq] at h3
    have : w = u := by omega
    exact absurd (this ▸ h2) h
theorem mPut_sL {n : Nat} {P : Nat → Bool} {w : Nat} (hw : w < n) : mPut (sL n P) (w : Int) true = sL n (upd P w true) := by
 refine asc_uniq (mPut_sorted (sL_asc n P)) (sL_asc _ _) fun x => ?_
 rw [(mPut_perm (sL_asc n P)).mem_iff, List.mem_cons, mem_sL]
 unfold mDel
 rw [List.mem_filter, mem_sL]
 constructor
 ·rintro (rfl | ⟨⟨u, h1, h2, rfl⟩, h3⟩)
  ·exact ⟨w, hw, by simp [upd], rfl⟩
  ·refine ⟨u, h1, ?_, rfl⟩
   unfold upd
   split
   ·rfl
   ·exact h2
 ·rintro ⟨u, h1, h2, rfl⟩
  unfold upd at h2
  split at h2
  ·rename_i e; subst e; exact .inl rfl
  ·rename_i e
   exact .inr ⟨⟨u, h1, h2, rfl⟩, by simp; omega⟩
theorem mDel_sL {n : Nat} {P : Nat → Bool} {w : Nat} : mDel (sL n P) (w : Int) = sL n (upd P w false) := by
 refine asc_uniq (mDel_sorted (sL_asc n P)) (sL_asc _ _) fun x => ?_
 unfold mDel
 rw [List.mem_filter, mem_sL, mem_sL]
 constructor
 ·rintro ⟨⟨u, h1, h2, rfl⟩, h3⟩
  refine ⟨u, h1, ?_, rfl⟩
  unfold upd
  have : u ≠ w := fun e => by subst e; simp at h3
  rw [if_neg this]; exact h2
 ·rintro ⟨u, h1, h2, rfl⟩
  unfold upd at h2
  split at h2
  ·cases h2
  ·rename_i e
   exact ⟨⟨u, h1, h2, rfl⟩, by simp; omega⟩
theorem mLk_sM {n c : Nat} {P : Nat → Bool} {w : Nat} (hw : w < n) : (mLk (α := Bool) (sM n P c) (w : Int)).getD false = P w := by
 show (mGet (sL n P) (w : Int)).getD false = P w
 rw [mGet_sL hw]
 cases P w <;> rfl
theorem mLn_sM {n c : Nat} {P : Nat → Bool} : mLn (sM n P c) = (nB n P : Int) := by
 show ((sL n P).length : Int) = _
 rw [sL_length]
theorem mKs_sM {n c : Nat} {P : Nat → Bool} : mKs (α := Bool) (sM n P c) = natL ((List.range n).filter P) := by
 show (sL n P).map (·.1) = _
 unfold sL natL
 rw [List.map_map]; rfl
theorem mUpO_sM {n c : Nat} {P : Nat → Bool} {w : Nat} (hw : w < n) : mUpO (sM n P c) (w : Int) true = some (sM n (upd P w true) (if P w = true then c else c + 1)) := by
 show some (some (mPut (sL n P) (w : Int) true, bif (mGet (sL n P) (w : Int)).isSome then c else c + 1)) = _
 rw [mPut_sL hw, mGet_sL hw]
 by_cases h : P w = true
 ·rw [if_pos h, if_pos h]; rfl
 ·rw [if_neg h, if_neg h]; rfl
theorem mDlO_sM {n c : Nat} {P : Nat → Bool} {w : Nat} : mDlO (sM n P c) (w : Int) = some (sM n (upd P w false) c) := by
 show some (some (mDel (sL n P) (w : Int), c)) = _
 rw [mDel_sL]; rfl
theorem mchk_same {α σ : Type} (m : Option (List (Int × α) × Nat)) (q : σ) : mchk m m q = some q := by
 unfold mchk; rw [if_pos rfl]
theorem nB_new {n : Nat} {P : Nat → Bool} {w : Nat} (hw : w < n) (h : P w = false) : nB n (upd P w true) = nB n P + 1 := by
 have : nB n (upd P w true) = nB n (fun i => P i || decide (i = w)) := nB_congr fun i _ => by
  unfold upd
  by_cases e : i = w
  ·rw [if_pos e, decide_eq_true e]; simp
  ·rw [if_neg e, decide_eq_false e]; simp
 rw [this, nB_or (fun i _ hp => by
  rw [decide_eq_false]
  rintro rfl
  rw [h] at hp; cases hp), nB_one hw]
theorem upd_id {P : Nat → Bool} {w : Nat} (h : P w = true) : upd P w true = P := by
 funext i
 unfold upd
 split
 ·rename_i e; subst e; exact h.symm
 ·rfl
theorem toNat_natL (S : List Nat) : (natL S).map Int.toNat = S := by simp [natL, Function.comp_def]
theorem natL_back {xs : List Int} (h : ∀ x ∈ xs, 0 ≤ x) : natL (xs.map Int.toNat) = xs := by
 unfold natL
 rw [List.map_map]
 conv => rhs; rw [← List.map_id xs]
 refine List.map_congr_left fun x hx => ?_
 have := h x hx
 simp only [Function.comp, id]
 omega
theorem mfold_set {σ : Type} {f : σ → Int → Option σ} {n : Nat} {P : Nat → Bool} (S : (Nat → Bool) → σ) {s : σ} (h0 : s = S fun _ => false)
  (hstep : ∀ d v, v < n → P v = true → d v = false → (∀ u, d u = true → u < n ∧ P u = true) → f (S d) (v : Int) = some (S (upd d v true))) :
  mfold f (natL ((List.range n).filter P)) s = some (S fun v => decide (v < n) && P v) := by
 rw [mfold_iff]
 intro l hl
 have hnd : ((List.range n).filter P).Nodup := List.nodup_range.sublist List.filter_sublist
 obtain ⟨m, hm, rfl⟩ : ∃ m : List Nat, m.Perm ((List.range n).filter P) ∧ l = natL m := by
  refine ⟨l.map Int.toNat, ?_, ?_⟩
  ·have := hl.map Int.toNat
   rwa [toNat_natL] at this
  ·refine (natL_back fun x hx => ?_).symm
   have := hl.mem_iff.1 hx
   unfold natL at this
   obtain ⟨u, _, rfl⟩ := List.mem_map.1 this
   omega
 have hmn := hm.nodup_iff.2 hnd
 have key : ∀ (m : List Nat) (d : Nat → Bool), m.Nodup → (∀ v ∈ m, v < n ∧ P v = true ∧ d v = false) → (∀ u, d u = true → u < n ∧ P u = true) → mrun f (natL m) (S d) = some (S fun v => d v || decide (v ∈ m)) := by
  intro m
  induction m with
  | nil => intro d _ _ _; simp [natL, mrun]
  | cons v m ih =>
    intro d hn hv hd
    rw [List.nodup_cons] at hn
    obtain ⟨h1, h2, h3⟩ := hv v (by simp)
    show (f (S d) (v : Int)).bind (mrun f (natL m)) = _
    rw [hstep d v h1 h2 h3 hd, Option.bind_some, ih (upd d v true) hn.2 (fun u hu => ?_) (fun u hu => ?_)]
    ·refine congrArg (fun e => some (S e)) (funext fun u => ?_)
     unfold upd
     by_cases e : u = v
     ·subst e; simp
     ·rw [if_neg e]; simp [e]
    ·obtain ⟨q1, q2, q3⟩ := hv u (by simp [hu])
     refine ⟨q1, q2, ?_⟩
     unfold upd
     rw [if_neg (by rintro rfl; exact hn.1 hu)]; exact q3
    ·unfold upd at hu
     split at hu
     ·rename_i e; subst e; exact ⟨h1, h2⟩
     ·exact hd u hu
 rw [h0, key m (fun _ => false) hmn (fun v hv => ?_) (fun u hu => by cases hu)]
 ·refine congrArg (fun e => some (S e)) (funext fun v => ?_)
  rw [Bool.false_or, Bool.eq_iff_iff]
  simp only [decide_eq_true_eq, Bool.and_eq_true]
  rw [hm.mem_iff, List.mem_filter, List.mem_range]
 ·have := hm.mem_iff.1 hv
  rw [List.mem_filter, List.mem_range] at this
  exact ⟨this.1, this.2, rfl⟩
end Go.Fw
end
section
namespace Go.Fw
open Go
def IsS (n : Nat) (m : Option (List (Int × Bool) × Nat)) (L : Nat → Bool) : Prop := (m = none ∧ ∀ v, v < n → L v = false) ∨ ∃ c, m = sM n L c
theorem IsS.ks {n : Nat} {m : Option (List (Int × Bool) × Nat)} {L : Nat → Bool} (h : IsS n m L) : mKs (α := Bool) m = natL ((List.range n).filter L) := by
 rcases h with ⟨rfl, h⟩ | ⟨c, rfl⟩
 ·have : (List.range n).filter L = [] := by
   rw [List.filter_eq_nil_iff]
   intro v hv
   rw [h v (List.mem_range.1 hv)]; simp
  rw [this]; rfl
 ·exact mKs_sM
def sF (n : Nat) (d : Nat → Bool) (g : Nat → Nat) : Nat := (((List.range n).filter d).map g).sum
theorem sF_none (n : Nat) (g : Nat → Nat) : sF n (fun _ => false) g = 0 := by
 unfold sF
 rw [List.filter_eq_nil_iff.2 (by simp)]; rfl
theorem sF_congr {n : Nat} {d d' : Nat → Bool} {g g' : Nat → Nat} (h : ∀ v, v < n → d v = d' v) (h2 : ∀ v, v < n → d v = true → g v = g' v) : sF n d g = sF n d' g' := by
 unfold sF
 rw [← List.filter_congr fun v hv => h v (List.mem_range.1 hv)]
 refine congrArg List.sum (List.map_congr_left fun v hv => ?_)
 rw [List.mem_filter, List.mem_range] at hv
 exact h2 v hv.1 hv.2
theorem sF_new {n : Nat} {d : Nat → Bool} {g : Nat → Nat} {w : Nat} (hw : w < n) (h : d w = false) : sF n (upd d w true) g = sF n d g + g w := by
 unfold sF
 induction n with
 | zero => omega
 | succ n ih =>
   rw [List.range_succ, List.filter_append, List.filter_append, List.map_append, List.map_append, List.sum_append, List.sum_append]
   rcases Nat.lt_or_ge w n with hlt | hge
   ·rw [ih hlt]
    have : upd d w true n = d n := by unfold upd; rw [if_neg (by omega)]
    rw [List.filter_cons, List.filter_cons, this]
    split <;> simp <;> omega
   ·obtain rfl : w = n := by omega
    have e1 : (List.range w).filter (upd d w true) = (List.range w).filter d := List.filter_congr fun v hv => by
     have := List.mem_range.1 hv
     unfold upd; rw [if_neg (by omega)]
    have e2 : upd d w true w = true := by simp [upd]
    rw [e1, List.filter_cons, List.filter_cons, e2, h]
    simp
theorem sF_le {n : Nat} {d : Nat → Bool} {g : Nat → Nat} {b : Nat} (h : ∀ v, v < n → g v ≤ b) : sF n d g ≤ n * b := by
 unfold sF
 have h1 : ∀ l : List Nat, (∀ x ∈ l, x < n) → (l.map g).sum ≤ l.length * b := by
  intro l
  induction l with
  | nil => intro _; simp
  | cons a l ih =>
    intro hl
    simp only [List.map_cons, List.sum_cons, List.length_cons]
    have := h a (hl a (by simp))
    have := ih (fun x hx => hl x (by simp [hx]))
    rw [Nat.add_mul, Nat.one_mul]; omega
 refine Nat.le_trans (h1 _ fun x hx => ?_) (Nat.mul_le_mul_right b ?_)
 ·rw [List.mem_filter, List.mem_range] at hx; exact hx.1
 ·exact Nat.le_trans (List.length_filter_le _ _) (by simp)
theorem wrap_id {x : Int} (h1 : -9223372036854775808 ≤ x) (h2 : x < 9223372036854775808) : IntKind.i64.wrap x = x := wrap64 h1 (by omega)
theorem outs_eq {n : Nat} (hn : n ≤ 200) {m : Option (List (Int × Bool) × Nat)} {L Q : Nat → Bool} {c : Nat} (hm : IsS n m L) :
  d_mindeg_set_outside (m, sM n Q c, ()) = some ((nB n (fun v => L v && !Q v) : Int), ()) := by
 unfold d_mindeg_set_outside
 simp only [hm.ks, mchk_same]
 refine bind_eq (mfold_set (fun d => ((nB n (fun v => d v && !Q v) : Int), ())) ?_ ?_) ?_
 ·have : nB n (fun v => false && !Q v) = 0 := by unfold nB; simp
  rw [this]; rfl
 ·intro d v hv hL hd _
  have hb := nB_le n (fun v => d v && !Q v)
  simp only [mLk_sM hv]
  cases hq : Q v with
  | true =>
    simp only [Bool.not_true, cond_false, Option.bind_some]
    refine congrArg (fun t : Nat => some ((t : Int), ())) (nB_congr fun i _ => ?_)
    unfold upd
    split
    ·rename_i e; subst e; rw [hq, hd]; rfl
    ·rfl
  | false =>
    simp only [Bool.not_false, cond_true, Option.bind_some]
    have e : nB n (fun i => upd d v true i && !Q i) = nB n (fun v => d v && !Q v) + 1 := by
     rw [← nB_new (P := fun v => d v && !Q v) hv (by simp [hd])]
     refine nB_congr fun i _ => ?_
     unfold upd
     split
     ·rename_i e; subst e; rw [hq]; rfl
     ·rfl
    rw [e, wrap_inc (by omega)]
 ·simp only [Option.some.injEq, Prod.mk.injEq, and_true]
  refine congrArg (fun t : Nat => (t : Int)) (nB_congr fun i hi => ?_)
  rw [decide_eq_true hi, Bool.true_and]
def min3 (a b s : Int) : Int := if s < (if a < b then a else b) then s else (if a < b then a else b)
theorem bound_eq {n : Nat} (hn : n ≤ 200) {A E L : Nat → Nat → Bool} {cA cE : Nat → Nat} {M : Nat → Option (List (Int × Bool) × Nat)} {D : Nat → Int} {G : Nat → Bool} {left : Int} {i p c : Nat} (hi : i < n) (hp : p < n)
  (hM : ∀ e, e < n → IsS n (M e) (L e)) (hMp : M p = sM n (L p) c) (hD : ∀ v, v < n → 0 ≤ D v ∧ D v ≤ 200) (hl : 0 ≤ left ∧ left ≤ 200) :
  d_mindeg_quotient_bound (some (fT n (fun v => sM n (A v) (cA v)), (fT n (fun v => sM n (E v) (cE v)), (fT n M, (fT n D, (fT n G, (left, ())))))), (i : Int), (p : Int), ()) =
   some (min3 (D i + ((nB n (L p) : Int) - 1)) (left - 1) ((nB n (A i) : Int) + ((nB n (L p) : Int) - 1) + (sF n (fun e => E i e && decide (e ≠ p)) fun e => nB n fun v => L e v && !L p v : Nat)), ()) := by
 unfold d_mindeg_quotient_bound
 have hLp := nB_le n (L p)
 have hAi := nB_le n (A i)
 have hDi := hD i hi
 have w1 : IntKind.i64.wrap ((nB n (L p) : Int) - 1) = (nB n (L p) : Int) - 1 := wrap_id (by omega) (by omega)
 have w2 : IntKind.i64.wrap ((nB n (A i) : Int) + ((nB n (L p) : Int) - 1)) = (nB n (A i) : Int) + ((nB n (L p) : Int) - 1) := wrap_id (by omega) (by omega)
 have w3 : IntKind.i64.wrap (left - 1) = left - 1 := wrap_id (by omega) (by omega)
 have w4 : IntKind.i64.wrap (D i + ((nB n (L p) : Int) - 1)) = D i + ((nB n (L p) : Int) - 1) := wrap_id (by omega) (by omega)
 have hMLn : mLn (M p) = (nB n (L p) : Int) := by rw [hMp, mLn_sM]
 simp only [Option.bind_some, getI_fT hp, getI_fT hi, mLn_sM, hMLn, w1, w2, w3, w4, mchk_same, mKs_sM]
 refine bind_eq (mfold_set (fun d => ((nB n (A i) : Int) + ((nB n (L p) : Int) - 1) + (sF n (fun e => d e && decide (e ≠ p)) fun e => nB n fun v => L e v && !L p v : Nat), ())) ?_ ?_) ?_
 ·have : sF n (fun e => false && decide (e ≠ p)) (fun e => nB n fun v => L e v && !L p v) = 0 := by
   rw [← sF_none n (fun e => nB n fun v => L e v && !L p v)]
   exact sF_congr (fun _ _ => by simp) (fun _ _ _ => rfl)
  rw [this]; simp
 ·intro d e he hE hd hsub
  have hb : sF n (fun e => d e && decide (e ≠ p)) (fun e => nB n fun v => L e v && !L p v) ≤ n * n := sF_le fun v _ => nB_le _ _
  have hnn : n * n ≤ 200 * 200 := Nat.mul_le_mul hn hn
  by_cases hep : e = p
  ·subst hep
   simp only [bne_self_eq_false, cond_false, Option.bind_some]
   refine congrArg (fun t : Nat => some ((nB n (A i) : Int) + ((nB n (L e) : Int) - 1) + (t : Int), ())) (sF_congr (fun v _ => ?_) fun _ _ _ => rfl)
   unfold upd
   split
   ·rename_i e1; subst e1; simp
   ·rfl
  ·have h1 : ((e : Int) != (p : Int)) = true := by simp; omega
   have hMp' : M p = sM n (L p) c := hMp
   simp only [h1, cond_true, getI_fT he, hMp', outs_eq hn (hM e he), Option.bind_some]
   have h2 := nB_le n (fun v => L e v && !L p v)
   have e1 : sF n (fun u => upd d e true u && decide (u ≠ p)) (fun e => nB n fun v => L e v && !L p v) = sF n (fun e => d e && decide (e ≠ p)) (fun e => nB n fun v => L e v && !L p v) + nB n (fun v => L e v && !L p v) := by
    rw [← sF_new (d := fun e => d e && decide (e ≠ p)) (g := fun e => nB n fun v => L e v && !L p v) he (by simp [hd])]
    refine sF_congr (fun u _ => ?_) fun _ _ _ => rfl
    unfold upd
    split
    ·rename_i e2; subst e2; simp [hep]
    ·rfl
   rw [e1, wrap_id (by omega) (by omega)]
   simp only [Option.some.injEq, Prod.mk.injEq, and_true]
   omega
 ·simp only [Option.bind_some]
  have e : (sF n (fun e => (decide (e < n) && E i e) && decide (e ≠ p)) fun e => nB n fun v => L e v && !L p v) = sF n (fun e => E i e && decide (e ≠ p)) fun e => nB n fun v => L e v && !L p v :=
   sF_congr (fun v hv => by rw [decide_eq_true hv, Bool.true_and]) fun _ _ _ => rfl
  rw [e]
  rfl
end Go.Fw
end
section
namespace Go.Fw
open Go
def uniB (n : Nat) (A E L : Nat → Nat → Bool) (p v : Nat) : Bool := A p v || (List.range n).any fun e => E p e && L e v
def allB (n : Nat) (A E L : Nat → Nat → Bool) (p v : Nat) : Bool := uniB n A E L p v && decide (v ≠ p)
def nxA (n : Nat) (A E L : Nat → Nat → Bool) (p : Nat) : Nat → Nat → Bool := fun i v => if allB n A E L p i = true then A i v && decide (v ≠ p) && !allB n A E L p v else A i v
def nxE (n : Nat) (A E L : Nat → Nat → Bool) (p : Nat) : Nat → Nat → Bool := fun i e => if allB n A E L p i = true then (E i e && !E p e) || decide (e = p) else E i e
def nxL (n : Nat) (A E L : Nat → Nat → Bool) (p : Nat) : Nat → Nat → Bool := upd L p (allB n A E L p)
def nxB (n : Nat) (A E L : Nat → Nat → Bool) (D : Nat → Int) (left : Int) (p i : Nat) : Int :=
 min3 (D i + ((nB n (allB n A E L p) : Int) - 1)) (left - 1) ((nB n (nxA n A E L p i) : Int) + ((nB n (allB n A E L p) : Int) - 1) + (sF n (fun e => nxE n A E L p i e && decide (e ≠ p)) fun e => nB n fun v => nxL n A E L p e v && !allB n A E L p v : Nat))
def nxD (n : Nat) (A E L : Nat → Nat → Bool) (D : Nat → Int) (left : Int) (p : Nat) : Nat → Int := fun i => if allB n A E L p i = true then nxB n A E L D left p i else D i
theorem mUp_cl {n : Nat} {P : Nat → Bool} {w : Nat} (hw : w < n) : mUpO (sM n P (nB n P)) (w : Int) true = some (sM n (upd P w true) (nB n (upd P w true))) := by
 rw [mUpO_sM hw]
 by_cases h : P w = true
 ·rw [if_pos h, upd_id h]
 ·rw [if_neg h, nB_new hw (by simpa using h)]
theorem sM_cl {n : Nat} {P Q : Nat → Bool} (h : ∀ v, v < n → P v = Q v) : sM n P (nB n P) = sM n Q (nB n Q) := sM_congr h (nB_congr h)
theorem any_upd {n : Nat} {d : Nat → Bool} {f : Nat → Bool} {e : Nat} (he : e < n) : ((List.range n).any fun u => upd d e true u && f u) = (((List.range n).any fun u => d u && f u) || f e) := by
 rw [Bool.eq_iff_iff]
 simp only [List.any_eq_true, List.mem_range, Bool.or_eq_true, Bool.and_eq_true, upd]
 constructor
 ·rintro ⟨u, h1, h2, h3⟩
  split at h2
  ·rename_i e1; subst e1; exact .inr h3
  ·exact .inl ⟨u, h1, h2, h3⟩
 ·rintro (⟨u, h1, h2, h3⟩ | h)
  ·refine ⟨u, h1, ?_, h3⟩
   split
   ·rfl
   ·exact h2
  ·exact ⟨e, he, by rw [if_pos rfl], h⟩
theorem nB_pos {n : Nat} {P : Nat → Bool} {v : Nat} (hv : v < n) (h : P v = true) : 1 ≤ nB n P := by
 unfold nB
 exact List.length_pos_of_mem (List.mem_filter.2 ⟨List.mem_range.2 hv, h⟩)
theorem min3_le (a b s : Int) : min3 a b s ≤ a ∧ min3 a b s ≤ b ∧ min3 a b s ≤ s := by unfold min3; split <;> split <;> omega
theorem min3_ge {a b s x : Int} (h1 : x ≤ a) (h2 : x ≤ b) (h3 : x ≤ s) : x ≤ min3 a b s := by unfold min3; split <;> split <;> omega
theorem nxB_rng {n : Nat} {A E L : Nat → Nat → Bool} {D : Nat → Int} {left : Int} {p v : Nat} (hv : v < n) (hall : allB n A E L p v = true) (hD : 0 ≤ D v) (hl : 2 ≤ left) : 0 ≤ nxB n A E L D (left - 1) p v ∧ nxB n A E L D (left - 1) p v ≤ left - 2 := by
 have h1 := nB_pos hv hall
 unfold nxB
 have h2 := (min3_le (D v + ((nB n (allB n A E L p) : Int) - 1)) (left - 1 - 1) ((nB n (nxA n A E L p v) : Int) + ((nB n (allB n A E L p) : Int) - 1) + (sF n (fun e => nxE n A E L p v e && decide (e ≠ p)) fun e => nB n fun u => nxL n A E L p e u && !allB n A E L p u : Nat))).2.1
 exact ⟨min3_ge (by omega) (by omega) (by omega), by omega⟩
theorem updd {α : Type} (f : Nat → α) (i : Nat) (x y : α) : upd (upd f i x) i y = upd f i y := by
 funext j
 unfold upd
 split <;> rfl
set_option maxHeartbeats 4000000 in
theorem elimq_eq {n : Nat} (hn : n ≤ 200) {A E L : Nat → Nat → Bool} {cA cE : Nat → Nat} {M : Nat → Option (List (Int × Bool) × Nat)} {D : Nat → Int} {G : Nat → Bool} {left : Int} {p : Nat} (hp : p < n)
  (hM : ∀ e, e < n → IsS n (M e) (L e)) (hD : ∀ v, v < n → 0 ≤ D v ∧ D v ≤ 200) (hl : 1 ≤ left ∧ left ≤ 200) (hl2 : ∀ v, v < n → allB n A E L p v = true → 2 ≤ left) :
  ∃ (cA' cE' : Nat → Nat) (c : Nat), d_mindeg_quotient_eliminate ((fT n (fun v => sM n (A v) (cA v)), (fT n (fun v => sM n (E v) (cE v)), (fT n M, (fT n D, (fT n G, (left, ())))))), (p : Int), ()) =
    some ((fT n (fun v => sM n (nxA n A E L p v) (cA' v)), (fT n (fun v => sM n (nxE n A E L p v) (cE' v)), (fT n (upd M p (sM n (allB n A E L p) c)), (fT n (nxD n A E L D (left - 1) p), (fT n (upd G p true), (left - 1, ())))))), ()) := by
 have w1 : IntKind.i64.wrap (left - 1) = left - 1 := wrap_id (by omega) (by omega)
 refine ⟨cA, fun i => if allB n A E L p i = true then (if (E i p && !E p p) = true then cE i else cE i + 1) else cE i, nB n (uniB n A E L p), ?_⟩
 unfold d_mindeg_quotient_eliminate
 simp (disch := omega) only [fT_length, idxN_nat, Option.bind_some, atO_fT, fT_set, Option.map_some, w1, mKs_sM, mchk_same]
 -- the neighbours
 refine bind_eq (mfold_set (fun d => (p, (fT n (fun v => sM n (A v) (cA v)), (fT n (fun v => sM n (E v) (cE v)), (fT n M, (fT n D, (fT n (upd G p true), (left - 1, ())))))), sM n d (nB n d), ())) ?_ ?_) ?_
 ·have : nB n (fun _ => false) = 0 := by unfold nB; rw [List.filter_eq_nil_iff.2 (by simp)]; rfl
  rw [this]
  have e : sM n (fun _ => false) 0 = some ([], 0) := by
   unfold sM sL
   rw [List.filter_eq_nil_iff.2 (by simp)]; rfl
  rw [e]
 ·intro d v hv hA hd _
  simp (disch := omega) only [mUp_cl hv, Option.bind_some, atO_fT, mchk_same]
 simp (disch := omega) only [fT_length, idxN_nat, Option.bind_some, atO_fT, fT_set, Option.map_some, mKs_sM, mchk_same]
 -- the elements
 refine bind_eq (mfold_set (fun d => (p, (fT n (fun v => sM n (A v) (cA v)), (fT n (fun v => sM n (E v) (cE v)), (fT n M, (fT n D, (fT n (upd G p true), (left - 1, ())))))), sM n (fun v => A p v || (List.range n).any fun e => d e && L e v) (nB n (fun v => A p v || (List.range n).any fun e => d e && L e v)), ())) ?_ ?_) ?_
 ·rw [sM_cl (Q := fun v => A p v || (List.range n).any fun e => false && L e v) (fun v hv => by rw [decide_eq_true hv, Bool.true_and]; simp)]
 ·intro d e he hE hd _
  simp (disch := omega) only [fT_length, idxN_nat, Option.bind_some, atO_fT, (hM e he).ks]
  refine bind_eq (bind_eq (mfold_set (fun d' => (p, e, (fT n (fun v => sM n (A v) (cA v)), (fT n (fun v => sM n (E v) (cE v)), (fT n M, (fT n D, (fT n (upd G p true), (left - 1, ())))))), sM n (fun v => (A p v || (List.range n).any fun e => d e && L e v) || d' v) (nB n (fun v => (A p v || (List.range n).any fun e => d e && L e v) || d' v)), ())) ?_ ?_) rfl) ?_
  ·rw [sM_cl (Q := fun v => (A p v || (List.range n).any fun e => d e && L e v) || false) (fun v hv => by rw [Bool.or_false])]
  ·intro d' v hv hL hd' _
   simp (disch := omega) only [mUp_cl hv, Option.bind_some, atO_fT, mchk_same]
   rw [sM_cl (P := upd (fun v => (A p v || (List.range n).any fun e => d e && L e v) || d' v) v true) (Q := fun u => (A p u || (List.range n).any fun e => d e && L e u) || upd d' v true u) (fun u hu => by
    unfold upd
    split
    ·rename_i e1; subst e1; simp
    ·rfl)]
  ·simp (disch := omega) only [Option.bind_some, atO_fT, mchk_same]
   rw [sM_cl (Q := fun v => A p v || (List.range n).any fun u => upd d e true u && L u v) (fun v hv => by
    rw [any_upd (f := fun u => L u v) he, decide_eq_true hv, Bool.true_and, Bool.or_assoc])]
 have eU : sM n (fun v => A p v || (List.range n).any fun e => (decide (e < n) && E p e) && L e v) (nB n (fun v => A p v || (List.range n).any fun e => (decide (e < n) && E p e) && L e v)) = sM n (uniB n A E L p) (nB n (uniB n A E L p)) := by
  refine sM_cl fun v hv => ?_
  unfold uniB
  congr 1
  rw [Bool.eq_iff_iff]
  simp only [List.any_eq_true, List.mem_range, Bool.and_eq_true, decide_eq_true_eq]
  exact ⟨fun ⟨e, h1, h2, h3⟩ => ⟨e, h1, h2.2, h3⟩, fun ⟨e, h1, h2, h3⟩ => ⟨e, h1, ⟨h1, h2⟩, h3⟩⟩
 have eA : ∀ c, sM n (upd (uniB n A E L p) p false) c = sM n (allB n A E L p) c := fun c => sM_congr (fun v hv => by
  unfold allB upd
  split
  ·rename_i e; subst e; simp
  ·rename_i e; simp [e]) rfl
 generalize hU : nB n (uniB n A E L p) = cU at *
 simp (disch := omega) only [eU, mDlO_sM, eA, fT_length, idxN_nat, Option.bind_some, atO_fT, fT_set, Option.map_some, upd_same, mKs_sM, mchk_same]
 have hallp : allB n A E L p p = false := by simp [allB]
 -- the sets of the members
 let NA : (Nat → Bool) → Nat → Option (List (Int × Bool) × Nat) := fun d v => sM n (if d v = true then fun u => A v u && decide (u ≠ p) && !allB n A E L p u else A v) (cA v)
 let NE : (Nat → Bool) → Nat → Option (List (Int × Bool) × Nat) := fun d v => sM n (if d v = true then fun e => (E v e && !E p e) || decide (e = p) else E v) (if d v = true then (if (E v p && !E p p) = true then cE v else cE v + 1) else cE v)
 have hNA0 : ∀ d v, d v = false → NA d v = sM n (A v) (cA v) := fun d v h => by simp only [NA, h, Bool.false_eq_true, if_false]
 have hNE0 : ∀ d v, d v = false → NE d v = sM n (E v) (cE v) := fun d v h => by simp only [NE, h, Bool.false_eq_true, if_false]
 refine bind_eq (mfold_set (fun d => (p, p, (fT n (NA d), (fT n (NE d), (fT n (upd M p (sM n (allB n A E L p) cU)), (fT n D, (fT n (upd G p true), (left - 1, ())))))), ())) ?_ ?_) ?_
 ·simp only [NA, NE, Bool.false_eq_true, if_false]
 ·intro d i hi hall hd hsub
  have hip : i ≠ p := fun e => by subst e; rw [hallp] at hall; cases hall
  have hpi : p ≠ i := fun e => hip e.symm
  have hdp : d p = false := by
   cases h : d p with
   | false => rfl
   | true => have := (hsub p h).2; rw [hallp] at this; cases this
  have hNAi := hNA0 d i hd
  have hNEi := hNE0 d i hd
  have hNEp := hNE0 d p hdp
  simp (disch := omega) only [fT_length, idxN_nat, Option.bind_some, atO_fT, hNAi, mDlO_sM, fT_set, Option.map_some, upd_same, mKs_sM, mchk_same]
  refine bind_eq (y := (p, p, (fT n (upd (NA d) i (sM n (fun u => A i u && decide (u ≠ p) && !(decide (u < n) && allB n A E L p u)) (cA i))), (fT n (upd (NE d) i (sM n (upd (fun e => E i e && !(decide (e < n) && E p e)) p true) (if (E i p && !(decide (p < n) && E p p)) = true then cE i else cE i + 1))), (fT n (upd M p (sM n (allB n A E L p) cU)), (fT n D, (fT n (upd G p true), (left - 1, ())))))), ())) (bind_eq (mfold_set (fun d' => (p, p, p, (fT n (upd (NA d) i (sM n (fun u => A i u && decide (u ≠ p) && !d' u) (cA i))), (fT n (NE d), (fT n (upd M p (sM n (allB n A E L p) cU)), (fT n D, (fT n (upd G p true), (left - 1, ())))))), ())) ?_ ?_) ?_) ?_
  ·rw [sM_congr (c := cA i) (c' := cA i) (P := upd (A i) p false) (Q := fun u => A i u && decide (u ≠ p) && !false) (fun v hv => by
    unfold upd
    split
    ·rename_i e; subst e; simp
    ·rename_i e; simp [e]) rfl]
  ·intro d' v hv _ hd' _
   simp (disch := omega) only [fT_length, idxN_nat, Option.bind_some, atO_fT, mDlO_sM, fT_set, Option.map_some, upd_same, updd, mKs_sM, mchk_same]
   rw [sM_congr (c := cA i) (c' := cA i) (P := upd (fun u => A i u && decide (u ≠ p) && !d' u) v false) (Q := fun u => A i u && decide (u ≠ p) && !upd d' v true u) (fun u hu => by
    unfold upd
    split
    ·simp
    ·rfl) rfl]
  ·simp (disch := omega) only [fT_length, idxN_nat, Option.bind_some, atO_fT, hNEp, mKs_sM, mchk_same]
   refine bind_eq (mfold_set (fun d' => (p, p, p, (fT n (upd (NA d) i (sM n (fun u => A i u && decide (u ≠ p) && !(decide (u < n) && allB n A E L p u)) (cA i))), (fT n (upd (NE d) i (sM n (fun e => E i e && !d' e) (cE i))), (fT n (upd M p (sM n (allB n A E L p) cU)), (fT n D, (fT n (upd G p true), (left - 1, ())))))), ())) ?_ ?_) ?_
   ·refine congrArg (fun t => (p, p, p, (fT n (upd (NA d) i (sM n (fun u => A i u && decide (u ≠ p) && !(decide (u < n) && allB n A E L p u)) (cA i))), (t, (fT n (upd M p (sM n (allB n A E L p) cU)), (fT n D, (fT n (upd G p true), (left - 1, ())))))), ())) (fT_congr fun v hv => ?_)
    unfold upd
    split
    ·rename_i e; subst e
     rw [hNEi]
     exact sM_congr (fun u _ => by simp) rfl
    ·rfl
   ·intro d' v hv hE hd' _
    simp (disch := omega) only [fT_length, idxN_nat, Option.bind_some, atO_fT, mDlO_sM, fT_set, Option.map_some, upd_same, updd, upd_ne _ _ hpi, hNEp, mKs_sM, mchk_same]
    rw [sM_congr (c := cE i) (c' := cE i) (P := upd (fun e => E i e && !d' e) v false) (Q := fun u => E i u && !upd d' v true u) (fun u hu => by
     unfold upd
     split
     ·simp
     ·rfl) rfl]
   ·simp (disch := omega) only [fT_length, idxN_nat, Option.bind_some, atO_fT, mUpO_sM hp, fT_set, Option.map_some, upd_same, updd, mKs_sM, mchk_same]
  ·simp (disch := omega) only [fT_length, idxN_nat, Option.bind_some, atO_fT, upd_same, mchk_same]
   have e1 : fT n (upd (NA d) i (sM n (fun u => A i u && decide (u ≠ p) && !(decide (u < n) && allB n A E L p u)) (cA i))) = fT n (NA (upd d i true)) := fT_congr fun v hv => by
    simp only [NA]
    unfold upd
    split
    ·rename_i e; subst e
     simp only [if_true]
     exact sM_congr (fun u hu => by rw [decide_eq_true hu, Bool.true_and]) rfl
    ·rfl
   have e2 : fT n (upd (NE d) i (sM n (upd (fun e => E i e && !(decide (e < n) && E p e)) p true) (if (E i p && !(decide (p < n) && E p p)) = true then cE i else cE i + 1))) = fT n (NE (upd d i true)) := fT_congr fun v hv => by
    simp only [NE]
    unfold upd
    split
    ·rename_i e; subst e
     simp only [if_true]
     refine sM_congr (fun u hu => ?_) ?_
     ·rw [decide_eq_true hu, Bool.true_and]
      by_cases e : u = p
      ·rw [if_pos e, decide_eq_true e, Bool.or_true]
      ·rw [if_neg e, decide_eq_false e, Bool.or_false]
     ·rw [decide_eq_true hp, Bool.true_and]
    ·rfl
   rw [e1, e2]
 -- the degrees
 have eNA : fT n (NA fun v => decide (v < n) && allB n A E L p v) = fT n fun v => sM n (nxA n A E L p v) (cA v) := fT_congr fun v hv => by
  simp only [NA, decide_eq_true hv, Bool.true_and]
  unfold nxA
  by_cases h : allB n A E L p v = true
  ·simp only [h, if_true]
  ·simp only [if_neg h]
 have eNE : fT n (NE fun v => decide (v < n) && allB n A E L p v) = fT n fun v => sM n (nxE n A E L p v) (if allB n A E L p v = true then (if (E v p && !E p p) = true then cE v else cE v + 1) else cE v) := fT_congr fun v hv => by
  simp only [NE, decide_eq_true hv, Bool.true_and]
  unfold nxE
  by_cases h : allB n A E L p v = true
  ·simp only [h, if_true]
  ·simp only [if_neg h]
 simp (disch := omega) only [eNA, eNE, fT_length, idxN_nat, Option.bind_some, atO_fT, upd_same, mKs_sM, mchk_same]
 have hM' : ∀ e, e < n → IsS n (upd M p (sM n (allB n A E L p) cU) e) (nxL n A E L p e) := fun e he => by
  unfold nxL upd
  split
  ·exact .inr ⟨cU, rfl⟩
  ·exact hM e he
 have hMp : upd M p (sM n (allB n A E L p) cU) p = sM n (nxL n A E L p p) cU := by unfold nxL; rw [upd_same, upd_same]
 have eLp : nxL n A E L p p = allB n A E L p := by unfold nxL; rw [upd_same]
 refine bind_eq (mfold_set (fun d => (p, (fT n (fun v => sM n (nxA n A E L p v) (cA v)), (fT n (fun v => sM n (nxE n A E L p v) (if allB n A E L p v = true then (if (E v p && !E p p) = true then cE v else cE v + 1) else cE v)), (fT n (upd M p (sM n (allB n A E L p) cU)), (fT n (fun i => if d i = true then nxB n A E L D (left - 1) p i else D i), (fT n (upd G p true), (left - 1, ())))))), ())) ?_ ?_) ?_
 ·simp only [Bool.false_eq_true, if_false]
 ·intro d i hi hall hd hsub
  have hDD : ∀ v, v < n → 0 ≤ (if d v = true then nxB n A E L D (left - 1) p v else D v) ∧ (if d v = true then nxB n A E L D (left - 1) p v else D v) ≤ 200 := fun v hv => by
   split
   ·rename_i hdv
    have := nxB_rng (A := A) (E := E) (L := L) (p := p) hv (hsub v hdv).2 (hD v hv).1 (hl2 v hv (hsub v hdv).2)
    omega
   ·exact hD v hv
  simp only [bound_eq (A := nxA n A E L p) (E := nxE n A E L p) (L := nxL n A E L p) hn hi hp hM' hMp hDD (show 0 ≤ left - 1 ∧ left - 1 ≤ 200 by omega)]
  simp (disch := omega) only [fT_length, idxN_nat, Option.bind_some, atO_fT, fT_set, Option.map_some, upd_same, mchk_same]
  rw [eLp]
  simp only [hd, Bool.false_eq_true, if_false]
  have e1 : fT n (upd (fun i => if d i = true then nxB n A E L D (left - 1) p i else D i) i (nxB n A E L D (left - 1) p i)) = fT n (fun j => if upd d i true j = true then nxB n A E L D (left - 1) p j else D j) := fT_congr fun v _ => by
   unfold upd
   split
   ·rename_i e; subst e; simp
   ·rfl
  rw [← e1]
  rfl
 ·simp only [Option.bind_some]
  have e1 : fT n (fun j => if (decide (j < n) && allB n A E L p j) = true then nxB n A E L D (left - 1) p j else D j) = fT n (nxD n A E L D (left - 1) p) := fT_congr fun v hv => by
   unfold nxD
   rw [decide_eq_true hv, Bool.true_and]
  rw [e1]
end Go.Fw
end
section
namespace Go.Fw
open Go
def IsMn (D : Nat → Int) (G : Nat → Bool) (m v : Nat) : Prop := v < m ∧ G v = false ∧ ∀ w, w < m → G w = false → D v < D w ∨ (D v = D w ∧ v ≤ w)
theorem IsMn.uniq {D : Nat → Int} {G : Nat → Bool} {m v v' : Nat} (h : IsMn D G m v) (h' : IsMn D G m v') : v = v' := by
 have h1 := h.2.2 v' h'.1 h'.2.1
 have h2 := h'.2.2 v h.1 h.2.1
 omega
def ScD (D : Nat → Int) (G : Nat → Bool) (m : Nat) (b : Int) : Prop := (b = -1 ∧ ∀ w, w < m → G w = true) ∨ ∃ v : Nat, b = (v : Int) ∧ IsMn D G m v
theorem ScD.take {D : Nat → Int} {G : Nat → Bool} {m : Nat} {b : Int} (h : ScD D G m b) (hm : G m = false) (hc : b < 0 ∨ ∃ v : Nat, b = (v : Int) ∧ D m < D v) : ScD D G (m + 1) (m : Int) := by
 refine .inr ⟨m, rfl, by omega, hm, fun w hw hg => ?_⟩
 by_cases e : w = m
 ·subst e; exact .inr ⟨rfl, Nat.le_refl _⟩
 ·rcases h with ⟨h1, h2⟩ | ⟨v, rfl, h1, h2, h3⟩
  ·rw [h2 w (by omega)] at hg; cases hg
  ·rcases hc with hc | ⟨u, hu, hc⟩
   ·omega
   ·obtain rfl : v = u := by omega
    rcases h3 w (by omega) hg with h | h
    ·exact .inl (by omega)
    ·exact .inl (by omega)
theorem ScD.skip {D : Nat → Int} {G : Nat → Bool} {m : Nat} {b : Int} (h : ScD D G m b) (hc : G m = true ∨ ∃ v : Nat, b = (v : Int) ∧ ¬ D m < D v) : ScD D G (m + 1) b := by
 rcases h with ⟨rfl, h⟩ | ⟨v, rfl, h1, h2, h3⟩
 ·refine .inl ⟨rfl, fun w hw => ?_⟩
  by_cases e : w = m
  ·subst e
   rcases hc with hc | ⟨v, hv, _⟩
   ·exact hc
   ·omega
  ·exact h w (by omega)
 ·refine .inr ⟨v, rfl, by omega, h2, fun w hw hg => ?_⟩
  by_cases e : w = m
  ·subst e
   rcases hc with hc | ⟨u, hu, hc⟩
   ·rw [hc] at hg; cases hg
   ·obtain rfl : v = u := by omega
    by_cases h : D v < D w
    ·exact .inl h
    ·exact .inr ⟨by omega, by omega⟩
  ·exact h3 w (by omega) hg
theorem ScD.done {D : Nat → Int} {G : Nat → Bool} {m : Nat} {b : Int} (h : ScD D G m b) {v : Nat} (hv : IsMn D G m v) : b = (v : Int) := by
 rcases h with ⟨_, h⟩ | ⟨u, rfl, hu⟩
 ·have := h v hv.1; rw [hv.2.1] at this; cases this
 ·rw [hu.uniq hv]
theorem mn_ex {D : Nat → Int} {G : Nat → Bool} : ∀ m, (∃ w, w < m ∧ G w = false) → ∃ v, IsMn D G m v := by
 have key : ∀ m, ∃ b, ScD D G m b := by
  intro m
  induction m with
  | zero => exact ⟨-1, .inl ⟨rfl, fun w hw => by omega⟩⟩
  | succ m ih =>
    obtain ⟨b, hb⟩ := ih
    cases hm : G m with
    | true => exact ⟨b, hb.skip (.inl hm)⟩
    | false =>
      by_cases h0 : b < 0
      ·exact ⟨_, hb.take hm (.inl h0)⟩
      ·obtain ⟨v, rfl⟩ : ∃ v : Nat, b = (v : Int) := ⟨b.toNat, by omega⟩
       by_cases h1 : D m < D v
       ·exact ⟨_, hb.take hm (.inr ⟨v, rfl, h1⟩)⟩
       ·exact ⟨_, hb.skip (.inr ⟨v, rfl, h1⟩)⟩
 intro m ⟨w, hw, hg⟩
 obtain ⟨b, h⟩ := key m
 rcases h with ⟨_, h⟩ | ⟨v, _, hv⟩
 ·rw [h w hw] at hg; cases hg
 ·exact ⟨v, hv⟩
theorem leastq_eq {n : Nat} (hn : n ≤ 200) {NA NE M : List (Option (List (Int × Bool) × Nat))} {D : Nat → Int} {G : Nat → Bool} {left : Int} {p : Nat} (hp : IsMn D G n p) :
  d_mindeg_quotient_least (some (NA, (NE, (M, (fT n D, (fT n G, (left, ())))))), ()) = some ((p : Int), ()) := by
 unfold d_mindeg_quotient_least
 simp only [Option.bind_some, fT_length]
 refine bindR ((p : Int), ()) rfl ?_
 rw [← Ok.eq_iff]
 refine Ok.seq n (fun i s => ∃ b, s = (b, (i : Int), ()) ∧ ScD D G i b) 0 ⟨-1, rfl, .inl ⟨rfl, fun w h => by omega⟩⟩ (Nat.zero_le _) ?_ ?_
 ·rintro i _ _ hi ⟨b, rfl, hsc⟩
  simp (disch := omega) only [cond_dec, if_pos, getI_fT hi, Option.bind_some]
  cases hm : G i with
  | true =>
    simp (disch := omega) only [Bool.not_true, show (false == true) = false from rfl, cond_false, Option.bind_some, wrap_inc]
    exact Ok.some_iff.2 ⟨b, rfl, hsc.skip (.inl hm)⟩
  | false =>
    simp (disch := omega) only [Bool.not_false, beq_self_eq_true, cond_true, Option.bind_some]
    by_cases hb : b < 0
    ·simp (disch := omega) only [decT hb, show (true == false) = false from rfl, cond_false, cond_true, Option.bind_some, wrap_inc]
     exact Ok.some_iff.2 ⟨_, rfl, hsc.take hm (.inl hb)⟩
    ·obtain ⟨v, rfl⟩ : ∃ v : Nat, b = (v : Int) := ⟨b.toNat, by omega⟩
     have hv : v < n := by
      rcases hsc with ⟨h, _⟩ | ⟨u, h, hu, _⟩
      ·omega
      ·omega
     simp (disch := omega) only [decF hb, beq_self_eq_true, cond_true, getI_fT hv, Option.bind_some]
     by_cases hc : D i < D v
     ·simp (disch := omega) only [decT hc, cond_true, Option.bind_some, wrap_inc]
      exact Ok.some_iff.2 ⟨_, rfl, hsc.take hm (.inr ⟨v, rfl, hc⟩)⟩
     ·simp (disch := omega) only [decF hc, cond_false, Option.bind_some, wrap_inc]
      exact Ok.some_iff.2 ⟨_, rfl, hsc.skip (.inr ⟨v, rfl, hc⟩)⟩
 ·rintro _ ⟨b, rfl, hsc⟩
  simp (disch := omega) only [cond_dec, if_neg]
  exact Ok.some_iff.2 (by rw [hsc.done hp])
theorem size_eq {n : Nat} (hn : n ≤ 4294967296) (P : Nat → Bool) : d_sparseref16q_size (fT n P, ()) = some ((nB n P : Int), ()) := by
 unfold d_sparseref16q_size
 simp only [fT_length]
 refine bindR ((nB n P : Int), ()) rfl ?_
 refine loop_seq n (fun i => ((nB i P : Int), (i : Int), ())) 0 rfl (Nat.zero_le _) ?_ ?_
 ·intro i _ hi
  have hb := nB_le i P
  have hs : nB (i + 1) P = nB i P + (if P i = true then 1 else 0) := by
   unfold nB
   rw [List.range_succ, List.filter_append, List.length_append, List.filter_cons]
   split <;> rfl
  simp (disch := omega) only [cond_dec, if_pos, getI_fT hi, Option.bind_some]
  cases hp : P i with
  | true => simp (disch := omega) only [cond_true, Option.bind_some, wrap_inc, hs, hp, if_true]
  | false => simp (disch := omega) only [cond_false, Option.bind_some, wrap_inc, hs, hp, Bool.false_eq_true, if_false, Nat.add_zero]
 ·simp (disch := omega) only [cond_dec, if_neg]
end Go.Fw
end
section
namespace Go.Fw
open Go
theorem put_eq {n : Nat} {B : Nat → Nat → Bool} {a v : Nat} {b : Bool} (ha : a < n) (hv : v < n) :
  atO (mT n B) a (fun e => (atO e v fun _ => some (e.set v b)).map fun z => (mT n B).set a z) = some (mT n (upd B a (upd (B a) v b))) := by
 have h1 : atO (mT n B) a (fun e => (atO e v fun _ => some (e.set v b)).map fun z => (mT n B).set a z) = (atO (fT n (B a)) v fun _ => some ((fT n (B a)).set v b)).map fun z => (mT n B).set a z := atO_fT ha
 rw [h1, atO_fT hv]
 simp only [Option.map_some]
 unfold mT
 rw [fT_set, fT_set]
 refine congrArg some (fT_congr fun x hx => ?_)
 unfold upd
 split
 ·rfl
 ·rfl
theorem at2_eq {n : Nat} {B : Nat → Nat → Bool} {a v : Nat} (ha : a < n) (hv : v < n) : atO (mT n B) a (fun e => atO e v fun x => some x) = some (B a v) := by
 have h1 : atO (mT n B) a (fun e => atO e v fun x => some x) = atO (fT n (B a)) v fun x => some x := atO_fT ha
 rw [h1, atO_fT hv]
def pre {α : Type} (k : Nat) (P Q : Nat → α) : Nat → α := fun v => if v < k then P v else Q v
theorem pre_zero {α : Type} (P Q : Nat → α) : pre 0 P Q = Q := by funext v; unfold pre; rw [if_neg (by omega)]
theorem pre_at {α : Type} (k : Nat) (P Q : Nat → α) : pre k P Q k = Q k := by unfold pre; rw [if_neg (by omega)]
theorem pre_lt {α : Type} {k v : Nat} (P Q : Nat → α) (h : v < k) : pre k P Q v = P v := if_pos h
theorem pre_put {α : Type} {k : Nat} {P Q : Nat → α} {x : α} (h : x = P k) : upd (pre k P Q) k x = pre (k + 1) P Q := by
 funext v
 unfold upd pre
 split
 ·rename_i e; subst e; rw [if_pos (by omega), h]
 ·by_cases h1 : v < k
  ·rw [if_pos h1, if_pos (by omega)]
  ·rw [if_neg h1, if_neg (by omega)]
theorem pre_next {α : Type} {k : Nat} {P Q : Nat → α} (h : Q k = P k) : pre k P Q = pre (k + 1) P Q := by
 funext v
 unfold pre
 by_cases h1 : v < k
 ·rw [if_pos h1, if_pos (by omega)]
 ·rw [if_neg h1]
  by_cases h2 : v < k + 1
  ·obtain rfl : v = k := by omega
   rw [if_pos h2, h]
  ·rw [if_neg h2]
theorem pre_end {α : Type} (n : Nat) (P Q : Nat → α) : fT n (pre n P Q) = fT n P := fT_congr fun v hv => pre_lt P Q hv
theorem mpre_end (n : Nat) (P Q : Nat → Nat → Bool) : mT n (pre n P Q) = mT n P := fT_congr fun v hv => by rw [pre_lt P Q hv]
theorem mpre_row (n p : Nat) (L : Nat → Nat → Bool) (P Q : Nat → Bool) : mT n (upd L p (pre n P Q)) = mT n (upd L p P) := fT_congr fun v hv => by
 unfold upd
 split
 ·exact pre_end n P Q
 ·rfl
theorem upd_self {α : Type} (f : Nat → α) (i : Nat) : upd f i (f i) = f := by
 funext v; unfold upd; split
 ·rename_i e; rw [e]
 ·rfl
theorem atR {n : Nat} {B : Nat → Nat → Bool} {a : Nat} (ha : a < n) : atO (mT n B) a (fun e => some e) = some (fT n (B a)) := atO_fT ha
theorem pre_row {n p v : Nat} (L : Nat → Nat → Bool) (P : Nat → Bool) (e : Nat) : upd L p (pre v P (L p)) e v = L e v := by
 unfold upd
 split
 ·rename_i h; subst h; exact pre_at _ _ _
 ·rfl
theorem nB_succ {k : Nat} {P : Nat → Bool} : nB (k + 1) P = nB k P + (if P k = true then 1 else 0) := by
 unfold nB
 rw [List.range_succ, List.filter_append, List.length_append, List.filter_cons]
 split <;> rfl
theorem sF_succ {k : Nat} {d : Nat → Bool} {g : Nat → Nat} : sF (k + 1) d g = sF k d g + (if d k = true then g k else 0) := by
 unfold sF
 rw [List.range_succ, List.filter_append, List.map_append, List.sum_append, List.filter_cons]
 split <;> simp
theorem any_succ {k : Nat} {f : Nat → Bool} : ((List.range (k + 1)).any f) = ((List.range k).any f || f k) := by
 rw [List.range_succ, List.any_append]; simp
theorem bneQ {v p : Nat} : ((v : Int) != (p : Int)) = decide (v ≠ p) := by
 by_cases h : v = p
 ·subst h; simp
 ·have : (v : Int) ≠ p := by omega
  rw [decide_eq_true h]; simpa using this
theorem beqQ {v p : Nat} : ((v : Int) == (p : Int)) = decide (v = p) := by
 by_cases h : v = p
 ·subst h; simp
 ·have : (v : Int) ≠ p := by omega
  rw [decide_eq_false h]; simpa using this
set_option maxHeartbeats 4000000 in
theorem step_eq {n : Nat} (hn : n ≤ 200) {A E L : Nat → Nat → Bool} {D : Nat → Int} {G : Nat → Bool} {p : Nat} (hp : IsMn D G n p) (hD : ∀ v, v < n → 0 ≤ D v ∧ D v ≤ 200) :
  d_sparseref16q_Quotient_step ((mT n A, (mT n E, (mT n L, (fT n D, (fT n G, ()))))), ()) =
   some ((mT n (nxA n A E L p), (mT n (nxE n A E L p), (mT n (nxL n A E L p), (fT n (nxD n A E L D ((n : Int) - (nB n (upd G p true) : Int)) p), (fT n (upd G p true), ()))))), (p : Int), D p, ()) := by
 have hpn := hp.1
 have hc : (n : Int) < 1000 := by omega
 unfold d_sparseref16q_Quotient_step
 simp only [fT_length]
 -- the least
 refine bindR ((p : Int), (mT n A, (mT n E, (mT n L, (fT n D, (fT n G, ()))))), ()) ?_ ?_
 case refine_2 =>
  rw [← Ok.eq_iff]
  refine Ok.seq n (fun i s => ∃ b, s = (b, (i : Int), (mT n A, (mT n E, (mT n L, (fT n D, (fT n G, ()))))), ()) ∧ ScD D G i b) 0 ⟨-1, rfl, .inl ⟨rfl, fun w h => by omega⟩⟩ (Nat.zero_le _) ?_ ?_
  ·rintro i _ _ hi ⟨b, rfl, hsc⟩
   simp (disch := omega) only [cond_dec, if_pos, fT_length, idxN_nat, atO_fT, Option.bind_some]
   cases hm : G i with
   | true =>
     simp (disch := omega) only [Bool.not_true, show (false == true) = false from rfl, cond_false, Option.bind_some, wrap_inc]
     exact Ok.some_iff.2 ⟨b, rfl, hsc.skip (.inl hm)⟩
   | false =>
     simp (disch := omega) only [Bool.not_false, beq_self_eq_true, cond_true, Option.bind_some]
     by_cases hb : b < 0
     ·simp (disch := omega) only [decT hb, show (true == false) = false from rfl, cond_false, cond_true, Option.bind_some, wrap_inc]
      exact Ok.some_iff.2 ⟨_, rfl, hsc.take hm (.inl hb)⟩
     ·obtain ⟨v, rfl⟩ : ∃ v : Nat, b = (v : Int) := ⟨b.toNat, by omega⟩
      have hv : v < n := by
       rcases hsc with ⟨h, _⟩ | ⟨u, h, hu, _⟩
       ·omega
       ·omega
      simp (disch := omega) only [decF hb, beq_self_eq_true, cond_true, idxN_nat, atO_fT, Option.bind_some]
      by_cases hc : D i < D v
      ·simp (disch := omega) only [decT hc, cond_true, Option.bind_some, wrap_inc]
       exact Ok.some_iff.2 ⟨_, rfl, hsc.take hm (.inr ⟨v, rfl, hc⟩)⟩
      ·simp (disch := omega) only [decF hc, cond_false, Option.bind_some, wrap_inc]
       exact Ok.some_iff.2 ⟨_, rfl, hsc.skip (.inr ⟨v, rfl, hc⟩)⟩
  ·rintro _ ⟨b, rfl, hsc⟩
   simp (disch := omega) only [cond_dec, if_neg]
   exact Ok.some_iff.2 (by rw [hsc.done hp])
 simp (disch := omega) only [fT_length, idxN_nat, atO_fT, fT_set, Option.map_some, Option.bind_some]
 -- the members of the new element
 have hallp : allB n A E L p p = false := by simp [allB]
 refine bindR ((mT n A, (mT n E, (mT n (nxL n A E L p), (fT n D, (fT n (upd G p true), ()))))), ()) ?_ ?_
 case refine_2 =>
  refine loop_for n (fun k => ((mT n A, (mT n E, (mT n (upd L p (pre k (allB n A E L p) (L p))), (fT n D, (fT n (upd G p true), ()))))), ())) 0 rfl ?_ (Nat.zero_le _) ?_ ?_
  ·rw [pre_zero, upd_self]
  ·intro v _ hv
   simp (disch := omega) only [cond_dec, if_pos, mT_length, idxN_nat, Option.bind_some, fT_length, at2_eq, atR]
   refine bind_eq (y := ((mT n A, (mT n E, (mT n (upd L p (pre (v + 1) (allB n A E L p) (L p))), (fT n D, (fT n (upd G p true), ()))))), ())) (bind_eq (y := (uniB n A E L p v, (mT n A, (mT n E, (mT n (upd L p (pre v (allB n A E L p) (L p))), (fT n D, (fT n (upd G p true), ()))))), ())) ?_ ?_) ?_
   ·refine loop_seq n (fun e => (A p v || (List.range e).any (fun e => E p e && L e v), (e : Int), (mT n A, (mT n E, (mT n (upd L p (pre v (allB n A E L p) (L p))), (fT n D, (fT n (upd G p true), ()))))), ())) 0 (by simp) (Nat.zero_le _) ?_ ?_
    ·intro e _ he
     simp (disch := omega) only [cond_dec, if_pos, mT_length, idxN_nat, Option.bind_some, fT_length, at2_eq, atR, pre_row (n := n), any_succ, wrap_inc]
     cases h1 : (A p v || (List.range e).any fun e => E p e && L e v) with
     | true => rw [← Bool.or_assoc, h1]; rfl
     | false =>
       rw [← Bool.or_assoc, h1]
       cases h2 : E p e <;> rfl
    ·simp (disch := omega) only [cond_dec, if_neg]
     rfl
   ·simp (disch := omega) only [mT_length, idxN_nat, Option.bind_some, fT_length, atR, put_eq, Option.map_some, upd_same, updd]
    cases h1 : uniB n A E L p v with
    | true =>
      simp only [beq_self_eq_true, cond_true]
      rw [pre_put (by unfold allB; rw [h1, bneQ]; rfl)]
    | false =>
      simp only [show (false == true) = false from rfl, cond_false]
      rw [pre_put (by unfold allB; rw [h1]; rfl)]
   ·simp (disch := omega) only [wrap_inc]
  ·simp (disch := omega) only [cond_dec, if_neg]
   rw [mpre_row]
   rfl
 have hGb := nB_le n (upd G p true)
 have hLb := nB_le n (allB n A E L p)
 have hLp : nxL n A E L p p = allB n A E L p := by unfold nxL; rw [upd_same]
 have w3 : IntKind.i64.wrap ((n : Int) - (nB n (upd G p true) : Int)) = (n : Int) - (nB n (upd G p true) : Int) := wrap_id (by omega) (by omega)
 have w4 : IntKind.i64.wrap ((n : Int) - (nB n (upd G p true) : Int) - 1) = (n : Int) - (nB n (upd G p true) : Int) - 1 := wrap_id (by omega) (by omega)
 have w5 : IntKind.i64.wrap ((nB n (allB n A E L p) : Int) - 1) = (nB n (allB n A E L p) : Int) - 1 := wrap_id (by omega) (by omega)
 simp (disch := omega) only [mT_length, idxN_nat, Option.bind_some, size_eq (show n ≤ 4294967296 by omega), w3, w4]
 -- the members
 refine bindR ((mT n (nxA n A E L p), (mT n (nxE n A E L p), (mT n (nxL n A E L p), (fT n D, (fT n (upd G p true), ()))))), ()) ?_ ?_
 case refine_2 =>
  refine loop_seq n (fun k => (p, (k : Int), (mT n (pre k (nxA n A E L p) A), (mT n (pre k (nxE n A E L p) E), (mT n (nxL n A E L p), (fT n D, (fT n (upd G p true), ()))))), ())) 0 (by rw [pre_zero, pre_zero]; rfl) (Nat.zero_le _) ?_ ?_
  ·intro i _ hi
   simp (disch := omega) only [cond_dec, if_pos, mT_length, idxN_nat, Option.bind_some, fT_length, at2_eq, atR, hLp]
   cases hai : allB n A E L p i with
   | false =>
     simp (disch := omega) only [Bool.not_false, cond_true, Option.bind_some, wrap_inc]
     rw [pre_next (P := nxA n A E L p) (k := i) (by unfold nxA; rw [hai]; rfl), pre_next (P := nxE n A E L p) (k := i) (by unfold nxE; rw [hai]; rfl)]
   | true =>
     have hip : i ≠ p := fun e => by subst e; rw [hallp] at hai; cases hai
     have hEp : ∀ (X : Nat → Bool), upd (pre i (nxE n A E L p) E) i X p = E p := fun X => by
      rw [upd_ne _ _ (Ne.symm hip)]
      unfold pre
      split
      ·funext e; unfold nxE; rw [hallp]; rfl
      ·rfl
     simp (disch := omega) only [Bool.not_true, cond_false, Option.bind_some, wrap_inc]
     refine bind_eq (y := (p, (mT n (pre (i + 1) (nxA n A E L p) A), (mT n (pre (i + 1) (nxE n A E L p) E), (mT n (nxL n A E L p), (fT n D, (fT n (upd G p true), ()))))), ())) (bind_eq (y := (p, (mT n (pre (i + 1) (nxA n A E L p) A), (mT n (pre (i + 1) (nxE n A E L p) E), (mT n (nxL n A E L p), (fT n D, (fT n (upd G p true), ()))))), ())) ?_ rfl) ?_
     ·refine loop_seq n (fun k => (p, (k : Int), (mT n (upd (pre i (nxA n A E L p) A) i (pre k (nxA n A E L p i) (A i))), (mT n (upd (pre i (nxE n A E L p) E) i (pre k (nxE n A E L p i) (E i))), (mT n (nxL n A E L p), (fT n D, (fT n (upd G p true), ()))))), ())) 0 ?_ (Nat.zero_le _) ?_ ?_
      ·have e1 : upd (pre i (nxA n A E L p) A) i (A i) = pre i (nxA n A E L p) A := by
        have := upd_self (pre i (nxA n A E L p) A) i
        rwa [pre_at] at this
       have e2 : upd (pre i (nxE n A E L p) E) i (E i) = pre i (nxE n A E L p) E := by
        have := upd_self (pre i (nxE n A E L p) E) i
        rwa [pre_at] at this
       rw [pre_zero, pre_zero, e1, e2]; rfl
      ·intro v _ hv
       simp (disch := omega) only [cond_dec, if_pos, mT_length, idxN_nat, Option.bind_some, fT_length, at2_eq, atR, put_eq, Option.map_some, hLp, upd_same, updd, pre_at, bneQ, beqQ]
       have eA : nxA n A E L p i v = (A i v && decide (v ≠ p) && !allB n A E L p v) := by unfold nxA; rw [hai]; rfl
       have eE : nxE n A E L p i v = ((E i v && !E p v) || decide (v = p)) := by unfold nxE; rw [hai]; rfl
       refine bind_eq (y := (p, (mT n (upd (pre i (nxA n A E L p) A) i (pre (v + 1) (nxA n A E L p i) (A i))), (mT n (upd (pre i (nxE n A E L p) E) i (pre (v + 1) (nxE n A E L p i) (E i))), (mT n (nxL n A E L p), (fT n D, (fT n (upd G p true), ()))))), ())) (bind_eq (y := (p, (mT n (upd (pre i (nxA n A E L p) A) i (pre (v + 1) (nxA n A E L p i) (A i))), (mT n (upd (pre i (nxE n A E L p) E) i (pre v (nxE n A E L p i) (E i))), (mT n (nxL n A E L p), (fT n D, (fT n (upd G p true), ()))))), ())) ?_ ?_) ?_
       ·cases h1 : A i v with
        | false =>
          simp only [show (false == true) = false from rfl, cond_false]
          rw [pre_put (k := v) (P := nxA n A E L p i) (Q := A i) (by rw [eA, h1]; rfl)]
        | true =>
          cases h2 : decide (v ≠ p) with
          | false =>
            simp only [show (false == true) = false from rfl, beq_self_eq_true, cond_true, cond_false]
            rw [pre_put (k := v) (P := nxA n A E L p i) (Q := A i) (by rw [eA, h1, h2]; rfl)]
          | true =>
            simp only [beq_self_eq_true, cond_true]
            rw [pre_put (k := v) (P := nxA n A E L p i) (Q := A i) (by rw [eA, h1, h2]; rfl)]
       ·simp (disch := omega) only [cond_dec, if_pos, mT_length, idxN_nat, Option.bind_some, fT_length, at2_eq, atR, put_eq, Option.map_some, hEp, upd_same, updd, pre_at]
        cases h1 : E i v with
        | false =>
          simp only [show (false == true) = false from rfl, cond_false]
          rw [pre_put (k := v) (P := nxE n A E L p i) (Q := E i) (by rw [eE, h1]; rfl)]
        | true =>
          cases h2 : E p v with
          | false =>
            simp only [Bool.not_false, show (true == false) = false from rfl, beq_self_eq_true, cond_true, cond_false]
            rw [pre_put (k := v) (P := nxE n A E L p i) (Q := E i) (by rw [eE, h1, h2]; rfl)]
          | true =>
            simp only [Bool.not_true, beq_self_eq_true, cond_true, cond_false]
            rw [pre_put (k := v) (P := nxE n A E L p i) (Q := E i) (by rw [eE, h1, h2]; rfl)]
       ·simp (disch := omega) only [wrap_inc]
      ·simp (disch := omega) only [cond_dec, if_neg]
       rw [mpre_row, mpre_row, pre_put rfl, pre_put rfl]
     ·rfl
  ·simp (disch := omega) only [cond_dec, if_neg]
   rw [mpre_end, mpre_end]
 -- the degrees
 refine bindR ((mT n (nxA n A E L p), (mT n (nxE n A E L p), (mT n (nxL n A E L p), (fT n (nxD n A E L D ((n : Int) - (nB n (upd G p true) : Int)) p), (fT n (upd G p true), ()))))), ()) rfl ?_
 refine loop_for n (fun k => ((mT n (nxA n A E L p), (mT n (nxE n A E L p), (mT n (nxL n A E L p), (fT n (pre k (nxD n A E L D ((n : Int) - (nB n (upd G p true) : Int)) p) D), (fT n (upd G p true), ()))))), ())) 0 rfl ?_ (Nat.zero_le _) ?_ ?_
 ·rw [pre_zero]
 ·intro i _ hi
  simp (disch := omega) only [cond_dec, if_pos, mT_length, idxN_nat, Option.bind_some, fT_length, at2_eq, atR, hLp]
  cases hai : allB n A E L p i with
  | false =>
    simp (disch := omega) only [Bool.not_false, cond_true, Option.bind_some, wrap_inc]
    rw [pre_next (P := nxD n A E L D ((n : Int) - (nB n (upd G p true) : Int)) p) (k := i) (by unfold nxD; rw [hai]; rfl)]
  | true =>
    have hAi := nB_le n (nxA n A E L p i)
    have hDi := hD i hi
    have w6 : IntKind.i64.wrap ((nB n (nxA n A E L p i) : Int) + ((nB n (allB n A E L p) : Int) - 1)) = (nB n (nxA n A E L p i) : Int) + ((nB n (allB n A E L p) : Int) - 1) := wrap_id (by omega) (by omega)
    have w7 : IntKind.i64.wrap (D i + ((nB n (allB n A E L p) : Int) - 1)) = D i + ((nB n (allB n A E L p) : Int) - 1) := wrap_id (by omega) (by omega)
    simp (disch := omega) only [Bool.not_true, cond_false, Option.bind_some, size_eq (show n ≤ 4294967296 by omega), w5, w6]
    refine bind_eq (y := ((mT n (nxA n A E L p), (mT n (nxE n A E L p), (mT n (nxL n A E L p), (fT n (pre (i + 1) (nxD n A E L D ((n : Int) - (nB n (upd G p true) : Int)) p) D), (fT n (upd G p true), ()))))), ())) (bindR ((nB n (nxA n A E L p i) : Int) + ((nB n (allB n A E L p) : Int) - 1) + (sF n (fun e => nxE n A E L p i e && decide (e ≠ p)) fun e => nB n fun v => nxL n A E L p e v && !allB n A E L p v : Nat), (mT n (nxA n A E L p), (mT n (nxE n A E L p), (mT n (nxL n A E L p), (fT n (pre i (nxD n A E L D ((n : Int) - (nB n (upd G p true) : Int)) p) D), (fT n (upd G p true), ()))))), ()) ?_ ?_) ?_
    ·simp (disch := omega) only [mT_length, idxN_nat, Option.bind_some, fT_length, atO_fT, pre_at, fT_set, Option.map_some, w7]
     rw [pre_put (by unfold nxD nxB min3; rw [if_pos hai])]
    ·refine loop_seq n (fun e => ((nB n (nxA n A E L p i) : Int) + ((nB n (allB n A E L p) : Int) - 1) + (sF e (fun e => nxE n A E L p i e && decide (e ≠ p)) fun e => nB n fun v => nxL n A E L p e v && !allB n A E L p v : Nat), (e : Int), (mT n (nxA n A E L p), (mT n (nxE n A E L p), (mT n (nxL n A E L p), (fT n (pre i (nxD n A E L D ((n : Int) - (nB n (upd G p true) : Int)) p) D), (fT n (upd G p true), ()))))), ())) 0 ?_ (Nat.zero_le _) ?_ ?_
     ·show (_, _) = (_, _)
      simp [sF]
     ·intro e _ he
      have hb : sF e (fun e => nxE n A E L p i e && decide (e ≠ p)) (fun e => nB n fun v => nxL n A E L p e v && !allB n A E L p v) ≤ e * n := sF_le fun v _ => nB_le _ _
      have hnn : e * n ≤ 200 * 200 := Nat.mul_le_mul (by omega) hn
      simp (disch := omega) only [cond_dec, if_pos, mT_length, idxN_nat, Option.bind_some, fT_length, wrap_inc]
      refine bind_eq (y := ((nB n (nxA n A E L p i) : Int) + ((nB n (allB n A E L p) : Int) - 1) + (sF (e + 1) (fun e => nxE n A E L p i e && decide (e ≠ p)) fun e => nB n fun v => nxL n A E L p e v && !allB n A E L p v : Nat), (mT n (nxA n A E L p), (mT n (nxE n A E L p), (mT n (nxL n A E L p), (fT n (pre i (nxD n A E L D ((n : Int) - (nB n (upd G p true) : Int)) p) D), (fT n (upd G p true), ()))))), ())) ?_ rfl
      rw [sF_succ]
      cases hc2 : (nxE n A E L p i e && decide (e ≠ p)) with
      | false =>
        rw [if_neg (by simp), Nat.add_zero]
        refine loop_seq 0 (fun _ => ((nB n (nxA n A E L p i) : Int) + ((nB n (allB n A E L p) : Int) - 1) + (sF e (fun e => nxE n A E L p i e && decide (e ≠ p)) fun e => nB n fun v => nxL n A E L p e v && !allB n A E L p v : Nat), (0 : Int), (mT n (nxA n A E L p), (mT n (nxE n A E L p), (mT n (nxL n A E L p), (fT n (pre i (nxD n A E L D ((n : Int) - (nB n (upd G p true) : Int)) p) D), (fT n (upd G p true), ()))))), ())) 0 rfl (Nat.zero_le _) (fun i h1 h2 => by omega) ?_
        simp (disch := omega) only [mT_length, idxN_nat, Option.bind_some, fT_length, at2_eq, atR, bneQ]
        have hn0 : decide ((0 : Int) < (n : Int)) = true := by rw [decide_eq_true]; omega
        rw [hn0]
        cases h1 : nxE n A E L p i e with
        | false => rfl
        | true =>
          rw [h1, Bool.true_and] at hc2
          rw [hc2]; rfl
      | true =>
        rw [if_pos rfl]
        rw [Bool.and_eq_true] at hc2
        refine loop_seq n (fun v => ((nB n (nxA n A E L p i) : Int) + ((nB n (allB n A E L p) : Int) - 1) + (sF e (fun e => nxE n A E L p i e && decide (e ≠ p)) fun e => nB n fun v => nxL n A E L p e v && !allB n A E L p v : Nat) + (nB v fun v => nxL n A E L p e v && !allB n A E L p v : Nat), (v : Int), (mT n (nxA n A E L p), (mT n (nxE n A E L p), (mT n (nxL n A E L p), (fT n (pre i (nxD n A E L D ((n : Int) - (nB n (upd G p true) : Int)) p) D), (fT n (upd G p true), ()))))), ())) 0 ?_ (Nat.zero_le _) ?_ ?_
        ·show (_, _) = (_, _)
         simp [nB]
        ·intro v _ hv
         have hbv := nB_le v (fun v => nxL n A E L p e v && !allB n A E L p v)
         have hv1 : decide ((v : Int) < (n : Int)) = true := by rw [decide_eq_true]; omega
         simp (disch := omega) only [hv1, cond_dec, mT_length, idxN_nat, Option.bind_some, fT_length, at2_eq, atR, bneQ, hc2.1, hc2.2, beq_self_eq_true, cond_true, hLp, wrap_inc, nB_succ]
         cases h1 : nxL n A E L p e v with
         | false => simp only [show (false == true) = false from rfl, cond_false, Option.bind_some, Bool.false_and, Bool.false_eq_true, if_false, Nat.add_zero]
         | true =>
           cases h2 : allB n A E L p v with
           | true => simp only [beq_self_eq_true, cond_true, cond_false, Option.bind_some, Bool.true_and, Bool.not_true, Bool.false_eq_true, if_false, Nat.add_zero]
           | false =>
             simp only [beq_self_eq_true, cond_true, cond_false, Option.bind_some, Bool.true_and, Bool.not_false, if_true]
             rw [wrap_id (by omega) (by omega)]
             refine congrArg (fun t : Int => some (Sum.inl (t, _))) ?_
             omega
        ·have hv1 : decide ((n : Int) < (n : Int)) = false := by rw [decide_eq_false]; omega
         simp only [hv1, show (false == true) = false from rfl, cond_false, Option.bind_some]
         refine congrArg (fun t : Int => some (Sum.inr (t, _))) ?_
         omega
     ·simp (disch := omega) only [cond_dec, if_neg]
    ·simp (disch := omega) only [wrap_inc]
 ·simp (disch := omega) only [cond_dec, if_neg]
  rw [pre_end]
end Go.Fw
end
section
namespace Go.Fw
open Go
structure QG where
 A : Nat → Nat → Bool
 E : Nat → Nat → Bool
 L : Nat → Nat → Bool
 D : Nat → Int
 G : Nat → Bool
def qg0 (adj : List (List Int)) : QG := ⟨nbB adj, fun _ _ => false, fun _ _ => false, fun v => (((adj.getD v []).length : Nat) : Int), fun _ => false⟩
def qgN (n : Nat) (q : QG) (p : Nat) : QG :=
 ⟨nxA n q.A q.E q.L p, nxE n q.A q.E q.L p, nxL n q.A q.E q.L p, nxD n q.A q.E q.L q.D ((n : Int) - (nB n (upd q.G p true) : Int)) p, upd q.G p true⟩
open Classical in
noncomputable def qgP (n : Nat) (q : QG) : Nat := if h : ∃ p, IsMn q.D q.G n p then h.choose else 0
theorem qgP_eq {n : Nat} {q : QG} {p : Nat} (h : IsMn q.D q.G n p) : qgP n q = p := by
 have hex : ∃ p, IsMn q.D q.G n p := ⟨p, h⟩
 unfold qgP
 rw [dif_pos hex]
 exact hex.choose_spec.uniq h
noncomputable def qgK (adj : List (List Int)) : Nat → QG
 | 0 => qg0 adj
 | k + 1 => qgN adj.length (qgK adj k) (qgP adj.length (qgK adj k))
noncomputable def qgO (adj : List (List Int)) (k : Nat) : Nat := qgP adj.length (qgK adj k)
noncomputable def qgB (adj : List (List Int)) (k : Nat) : Int := (qgK adj k).D (qgO adj k)
theorem nB_sub {n : Nat} {P Q : Nat → Bool} : nB n (fun x => P x || Q x) ≤ nB n P + nB n Q := by
 have e : nB n (fun x => P x || Q x) = nB n (fun x => P x || (Q x && !P x)) := nB_congr fun i _ => by
  cases P i <;> simp
 rw [e, nB_or fun i _ h => by rw [h]; simp]
 have := nB_mono (n := n) (p := fun x => Q x && !P x) (q := Q) fun i _ h => by rw [Bool.and_eq_true] at h; exact h.1
 omega
theorem nB_any {n : Nat} {d : Nat → Bool} {P : Nat → Nat → Bool} : ∀ m, nB n (fun x => (List.range m).any fun e => d e && P e x) ≤ sF m d fun e => nB n (P e)
 | 0 => by unfold nB; rw [List.filter_eq_nil_iff.2 (by simp)]; exact Nat.zero_le _
 | m + 1 => by
     have ih := nB_any (n := n) (d := d) (P := P) m
     rw [sF_succ]
     have e : (fun x => (List.range (m + 1)).any fun e => d e && P e x) = fun x => ((List.range m).any fun e => d e && P e x) || (d m && P m x) := funext fun x => any_succ
     rw [e]
     refine Nat.le_trans nB_sub ?_
     cases h : d m with
     | true =>
       simp only [Bool.true_and, if_true]
       exact Nat.add_le_add_right ih _
     | false =>
       have : nB n (fun x => false && P m x) = 0 := by unfold nB; rw [List.filter_eq_nil_iff.2 (by simp)]; rfl
       rw [this]; simp; exact ih
theorem nB_out {n : Nat} {P : Nat → Bool} {i : Nat} (hi : i < n) (h : P i = true) : nB n (fun x => P x && decide (x ≠ i)) + 1 = nB n P := by
 rw [← nB_new (P := fun x => P x && decide (x ≠ i)) hi (by simp)]
 refine nB_congr fun x _ => ?_
 unfold upd
 split
 ·rename_i e; rw [e, h]
 ·rename_i e; simp [e]
def gnS (q : QG) (x : Nat) : Prop := q.G x = true
structure QInv (adj : List (List Int)) (k : Nat) (q : QG) : Prop where
 rA : ∀ v x, q.A v x = true → v < adj.length ∧ x < adj.length
 rE : ∀ v e, q.E v e = true → v < adj.length ∧ e < adj.length
 rL : ∀ e x, q.L e x = true → x < adj.length
 sy : ∀ v x, q.G v = false → q.A v x = true → q.A x v = true ∧ q.G x = false
 eg : ∀ v e, q.G v = false → q.E v e = true → q.G e = true ∧ q.L e v = true
 lx : ∀ v e x, q.G v = false → q.E v e = true → q.L e x = true → q.G x = false ∧ q.E x e = true
 bt : ∀ v x, v < adj.length → q.G v = false → (bT adj (gnS q) v x = true ↔ x ≠ v ∧ (q.A v x = true ∨ ∃ e, q.E v e = true ∧ q.L e x = true))
 ct : nB adj.length q.G = k
 dr : ∀ v, v < adj.length → 0 ≤ q.D v ∧ q.D v ≤ 200
 dg : ∀ v, v < adj.length → q.G v = false → (dgS adj (gnS q) v : Int) ≤ q.D v
theorem row_nB {adj : List (List Int)} (hV : Valid adj) {v : Nat} (hv : v < adj.length) : (adj.getD v []) = natL ((List.range adj.length).filter (nbB adj v)) := by
 rw [getD_lt hv]
 have hr := (Valid_iff adj).1 hV v hv
 refine sorted_ext hr.1 (sorted_filter _ _) (fun x => ?_)
 constructor
 ·intro hx
  obtain ⟨m, hm, rfl⟩ := List.mem_iff_getElem.1 hx
  have h1 := hr.2 m hm
  refine List.mem_map.2 ⟨adj[v][m].toNat, List.mem_filter.2 ⟨List.mem_range.2 (by omega), ?_⟩, by omega⟩
  rw [nbB_iff]
  exact ⟨hv, by rw [Int.toNat_of_nonneg h1.1.1]; exact List.getElem_mem hm⟩
 ·intro hx
  obtain ⟨y, hy, rfl⟩ := List.mem_map.1 hx
  obtain ⟨_, h2⟩ := nbB_iff.1 (List.mem_filter.1 hy).2
  exact h2
section
variable {adj : List (List Int)} (hV : Valid adj) (hn : adj.length ≤ 200)
include hV hn
theorem qinv0 : QInv adj 0 (qg0 adj) := by
 have hS : gnS (qg0 adj) = fun _ => False := by funext x; exact eq_false (fun h => by cases h)
 refine ⟨fun v x h => ?_, fun v e h => (by cases h), fun e x h => (by cases h), fun v x _ h => ?_, fun v e _ h => (by cases h), fun v e x _ h => (by cases h), fun v x hv _ => ?_, ?_, fun v hv => ?_, fun v hv _ => ?_⟩
 ·exact Nb.lt hV (nbB_iff.1 h)
 ·exact ⟨by show nbB adj x v = true; rw [nbB_symm hV]; exact h, rfl⟩
 ·rw [hS, bT_none hV]
  constructor
  ·intro h
   exact ⟨fun e => Nb.ne hV (nbB_iff.1 h) e.symm, .inl h⟩
  ·rintro ⟨_, h | ⟨e, h, _⟩⟩
   ·exact h
   ·cases h
 ·show nB adj.length (fun _ => false) = 0
  unfold nB; rw [List.filter_eq_nil_iff.2 (by simp)]; rfl
 ·have : (adj.getD v []).length ≤ adj.length := by
   rw [row_nB hV hv, natL_length]; exact nB_le _ _
  exact ⟨by simp [qg0], by simp only [qg0]; omega⟩
 ·rw [hS]
  show (dgS adj (fun _ => False) v : Int) ≤ (((adj.getD v []).length : Nat) : Int)
  rw [row_nB hV hv, natL_length]
  have : (fun x => bT adj (fun _ => False) v x) = nbB adj v := funext fun x => bT_none hV v x
  unfold dgS
  rw [show bT adj (fun _ => False) v = nbB adj v from this]
  omega
section
variable {k : Nat} {q : QG} (h : QInv adj k q) {p : Nat} (hp : IsMn q.D q.G adj.length p)
include h hp
omit hV hn in
theorem all_bt (x : Nat) : allB adj.length q.A q.E q.L p x = true ↔ bT adj (gnS q) p x = true := by
 rw [h.bt p x hp.1 hp.2.1]
 unfold allB uniB
 simp only [Bool.and_eq_true, Bool.or_eq_true, decide_eq_true_eq, List.any_eq_true, List.mem_range]
 constructor
 ·rintro ⟨h1 | ⟨e, _, h1⟩, h2⟩
  ·exact ⟨h2, .inl h1⟩
  ·exact ⟨h2, .inr ⟨e, h1⟩⟩
 ·rintro ⟨h2, h1 | ⟨e, h1⟩⟩
  ·exact ⟨.inl h1, h2⟩
  ·exact ⟨.inr ⟨e, (h.rE p e h1.1).2, h1⟩, h2⟩
omit hV hn in
theorem all_lv {x : Nat} (hx : allB adj.length q.A q.E q.L p x = true) : x < adj.length ∧ q.G x = false ∧ x ≠ p := by
 have h1 := (h.bt p x hp.1 hp.2.1).1 ((all_bt h hp x).1 hx)
 refine ⟨?_, ?_, h1.1⟩
 ·rcases h1.2 with h2 | ⟨e, _, h2⟩
  ·exact (h.rA p x h2).2
  ·exact h.rL e x h2
 ·rcases h1.2 with h2 | ⟨e, h3, h2⟩
  ·exact (h.sy p x hp.2.1 h2).2
  ·exact (h.lx p e x hp.2.1 h3 h2).1
omit hV hn in
theorem all_left {x : Nat} (hx : allB adj.length q.A q.E q.L p x = true) : k + 2 ≤ adj.length := by
 obtain ⟨h1, h2, h3⟩ := all_lv h hp hx
 have e1 := nB_new (P := q.G) hp.1 hp.2.1
 have e2 := nB_new (P := upd q.G p true) (w := x) h1 (by rw [upd_ne _ _ h3]; exact h2)
 have := nB_le adj.length (upd (upd q.G p true) x true)
 rw [e2, e1, h.ct] at this
 omega
omit hV hn in
theorem gn_next : gnS (qgN adj.length q p) = fun x => gnS q x ∨ x = p := by
 funext x
 refine propext ?_
 show upd q.G p true x = true ↔ q.G x = true ∨ x = p
 unfold upd
 split
 ·rename_i e; simp [e]
 ·rename_i e; simp [e]
omit hn in
theorem bt_next (i x : Nat) : bT adj (gnS (qgN adj.length q p)) i x = true ↔ i ≠ p ∧ x ≠ p ∧ (bT adj (gnS q) i x = true ∨ (i ≠ x ∧ allB adj.length q.A q.E q.L p i = true ∧ allB adj.length q.A q.E q.L p x = true)) := by
 rw [gn_next h hp, ← bT_next hV (fun e : gnS q p => by have h1 : q.G p = true := e; rw [hp.2.1] at h1; cases h1)]
 unfold elB
 rw [all_bt h hp, all_bt h hp]
 by_cases e : i = p ∨ x = p
 ·rw [if_pos e]
  constructor
  ·intro h2; cases h2
  ·rintro ⟨h1, h2, _⟩; exact absurd e (by simp [h1, h2])
 ·rw [if_neg e]
  simp only [Bool.or_eq_true, Bool.and_eq_true, decide_eq_true_eq]
  exact ⟨fun h2 => ⟨fun e2 => e (.inl e2), fun e2 => e (.inr e2), h2⟩, fun h2 => h2.2.2⟩
end
end
end Go.Fw
end
section
namespace Go.Fw
open Go
section
variable {adj : List (List Int)} (hV : Valid adj) (hn : adj.length ≤ 200)
include hV hn
variable {k : Nat} {q : QG} (h : QInv adj k q) {p : Nat} (hp : IsMn q.D q.G adj.length p)
include h hp
theorem qinv_next : QInv adj (k + 1) (qgN adj.length q p) := by
 have hpn := hp.1
 have hG : ∀ x, (qgN adj.length q p).G x = false ↔ x ≠ p ∧ q.G x = false := fun x => by
  show upd q.G p true x = false ↔ _
  unfold upd
  split
  ·rename_i e; simp [e]
  ·rename_i e; simp [e]
 have hGt : ∀ x, q.G x = true → (qgN adj.length q p).G x = true := fun x hx => by
  show upd q.G p true x = true
  unfold upd
  split
  ·rfl
  ·exact hx
 have hab := fun x => all_bt h hp (x := x)
 have hal := fun x hx => all_lv h hp (x := x) hx
 have hA : ∀ i x, (qgN adj.length q p).A i x = true ↔ q.A i x = true ∧ (allB adj.length q.A q.E q.L p i = true → x ≠ p ∧ ¬ allB adj.length q.A q.E q.L p x = true) := fun i x => by
  show nxA adj.length q.A q.E q.L p i x = true ↔ _
  unfold nxA
  split
  ·rename_i e
   simp only [Bool.and_eq_true, decide_eq_true_eq, Bool.not_eq_true', Bool.not_eq_true]
   exact ⟨fun ⟨⟨a, b⟩, c⟩ => ⟨a, fun _ => ⟨b, c⟩⟩, fun ⟨a, b⟩ => ⟨⟨a, (b e).1⟩, (b e).2⟩⟩
  ·rename_i e
   exact ⟨fun a => ⟨a, fun e2 => absurd e2 e⟩, fun a => a.1⟩
 have hE : ∀ i e, (qgN adj.length q p).E i e = true ↔ (allB adj.length q.A q.E q.L p i = true ∧ e = p) ∨ (q.E i e = true ∧ (allB adj.length q.A q.E q.L p i = true → ¬ q.E p e = true)) := fun i e => by
  show nxE adj.length q.A q.E q.L p i e = true ↔ _
  unfold nxE
  split
  ·rename_i e1
   simp only [Bool.or_eq_true, Bool.and_eq_true, decide_eq_true_eq, Bool.not_eq_true', Bool.not_eq_true]
   exact ⟨fun a => a.elim (fun a => .inr ⟨a.1, fun _ => a.2⟩) (fun a => .inl ⟨e1, a⟩), fun a => a.elim (fun a => .inr a.2) (fun a => .inl ⟨a.1, a.2 e1⟩)⟩
  ·rename_i e1
   exact ⟨fun a => .inr ⟨a, fun e2 => absurd e2 e1⟩, fun a => a.elim (fun a => absurd a.1 e1) (fun a => a.1)⟩
 have hLp : ∀ x, (qgN adj.length q p).L p x = allB adj.length q.A q.E q.L p x := fun x => by
  show nxL adj.length q.A q.E q.L p p x = _
  unfold nxL; rw [upd_same]
 have hLo : ∀ e, e ≠ p → ∀ x, (qgN adj.length q p).L e x = q.L e x := fun e he x => by
  show nxL adj.length q.A q.E q.L p e x = _
  unfold nxL; rw [upd_ne _ _ he]
 -- an element of a vertex is no vertex that is left
 have hEp : ∀ i e, q.G i = false → q.E i e = true → e ≠ p := fun i e h1 h2 e3 => by
  subst e3
  have := (h.eg i e h1 h2).1
  rw [hp.2.1] at this; cases this
 have hall : ∀ x, x ≠ p → (q.A p x = true ∨ ∃ e, q.E p e = true ∧ q.L e x = true) → allB adj.length q.A q.E q.L p x = true := fun x h1 h2 => (hab x).2 ((h.bt p x hpn hp.2.1).2 ⟨h1, h2⟩)
 -- an element that stays with i does not hold p
 have hst : ∀ i e, q.G i = false → i ≠ p → q.E i e = true → (allB adj.length q.A q.E q.L p i = true → ¬ q.E p e = true) → ¬ q.E p e = true := fun i e h1 h2 h3 h4 h5 => by
  exact h4 (hall i h2 (.inr ⟨e, h5, (h.eg i e h1 h3).2⟩)) h5
 have hxp : ∀ i e x, q.G i = false → i ≠ p → q.E i e = true → ¬ q.E p e = true → q.L e x = true → x ≠ p := fun i e x h1 h2 h3 h4 h5 e6 => by
  subst e6
  exact h4 (h.lx i e x h1 h3 h5).2
 have hct : nB adj.length (qgN adj.length q p).G = k + 1 := by
  show nB adj.length (upd q.G p true) = k + 1
  rw [nB_new hpn hp.2.1, h.ct]
 have hleft : ((adj.length : Int) - (nB adj.length (upd q.G p true) : Int)) = (adj.length : Int) - k - 1 := by
  have : nB adj.length (upd q.G p true) = k + 1 := hct
  omega
 have hbt : ∀ i x, i < adj.length → (qgN adj.length q p).G i = false → (bT adj (gnS (qgN adj.length q p)) i x = true ↔ x ≠ i ∧ ((qgN adj.length q p).A i x = true ∨ ∃ e, (qgN adj.length q p).E i e = true ∧ (qgN adj.length q p).L e x = true)) := by
  intro i x hi hg
  obtain ⟨hip, hgi⟩ := (hG i).1 hg
  rw [bt_next hV h hp, h.bt i x hi hgi]
  constructor
  ·rintro ⟨_, hx, ⟨h1, h2⟩ | ⟨h1, h2, h3⟩⟩
   ·refine ⟨h1, ?_⟩
    by_cases hai : allB adj.length q.A q.E q.L p i = true ∧ allB adj.length q.A q.E q.L p x = true
    ·exact .inr ⟨p, (hE i p).2 (.inl ⟨hai.1, rfl⟩), by rw [hLp]; exact hai.2⟩
    ·rcases h2 with h2 | ⟨e, h2, h3⟩
     ·exact .inl ((hA i x).2 ⟨h2, fun ha => ⟨hx, fun hb => hai ⟨ha, hb⟩⟩⟩)
     ·have hep := hEp i e hgi h2
      refine .inr ⟨e, (hE i e).2 (.inr ⟨h2, fun ha hb => hai ⟨ha, hall x hx (.inr ⟨e, hb, h3⟩)⟩⟩), by rw [hLo e hep]; exact h3⟩
   ·exact ⟨fun e => h1 e.symm, .inr ⟨p, (hE i p).2 (.inl ⟨h2, rfl⟩), by rw [hLp]; exact h3⟩⟩
  ·rintro ⟨h1, h2 | ⟨e, h2, h3⟩⟩
   ·obtain ⟨h3, h4⟩ := (hA i x).1 h2
    refine ⟨hip, fun e => ?_, .inl ⟨h1, .inl h3⟩⟩
    subst e
    exact (h4 (hall i hip (.inl (h.sy i x hgi h3).1))).1 rfl
   ·rcases (hE i e).1 h2 with ⟨h4, rfl⟩ | ⟨h4, h5⟩
    ·rw [hLp] at h3
     exact ⟨hip, (hal x h3).2.2, .inr ⟨fun e => h1 e.symm, h4, h3⟩⟩
    ·rw [hLo e (hEp i e hgi h4)] at h3
     have h6 := hst i e hgi hip h4 h5
     exact ⟨hip, hxp i e x hgi hip h4 h6 h3, .inl ⟨h1, .inr ⟨e, h4, h3⟩⟩⟩
 have hdr : ∀ v, v < adj.length → 0 ≤ (qgN adj.length q p).D v ∧ (qgN adj.length q p).D v ≤ 200 := by
  intro v hv
  show 0 ≤ nxD adj.length q.A q.E q.L q.D ((adj.length : Int) - (nB adj.length (upd q.G p true) : Int)) p v ∧ nxD adj.length q.A q.E q.L q.D ((adj.length : Int) - (nB adj.length (upd q.G p true) : Int)) p v ≤ 200
  unfold nxD
  split
  ·rename_i ha
   have h2 := all_left h hp ha
   have := nxB_rng (n := adj.length) (A := q.A) (E := q.E) (L := q.L) (D := q.D) (left := (adj.length : Int) - k) (p := p) hv ha (h.dr v hv).1 (by omega)
   rw [hleft]
   omega
  ·exact h.dr v hv
 refine ⟨fun v x h1 => h.rA v x ((hA v x).1 h1).1, fun v e h1 => ?_, fun e x h1 => ?_, fun v x h1 h2 => ?_, fun v e h1 h2 => ?_, fun v e x h1 h2 h3 => ?_, hbt, hct, hdr, fun i hi hg => ?_⟩
 ·rcases (hE v e).1 h1 with ⟨h2, rfl⟩ | ⟨h2, _⟩
  ·exact ⟨(hal v h2).1, hpn⟩
  ·exact h.rE v e h2
 ·by_cases e1 : e = p
  ·subst e1; rw [hLp] at h1; exact (hal x h1).1
  ·rw [hLo e e1] at h1; exact h.rL e x h1
 ·obtain ⟨h3, h4⟩ := (hG v).1 h1
  obtain ⟨h5, h6⟩ := (hA v x).1 h2
  have h7 := h.sy v x h4 h5
  have hx : x ≠ p := fun e => by subst e; exact (h6 (hall v h3 (.inl h7.1))).1 rfl
  refine ⟨(hA x v).2 ⟨h7.1, fun ha => ⟨h3, fun hb => (h6 hb).2 ha⟩⟩, (hG x).2 ⟨hx, h7.2⟩⟩
 ·obtain ⟨h3, h4⟩ := (hG v).1 h1
  rcases (hE v e).1 h2 with ⟨h5, rfl⟩ | ⟨h5, h6⟩
  ·exact ⟨by show upd q.G e true e = true; rw [upd_same], by rw [hLp]; exact h5⟩
  ·have := h.eg v e h4 h5
   exact ⟨hGt e this.1, by rw [hLo e (hEp v e h4 h5)]; exact this.2⟩
 ·obtain ⟨h4, h5⟩ := (hG v).1 h1
  rcases (hE v e).1 h2 with ⟨h6, rfl⟩ | ⟨h6, h7⟩
  ·rw [hLp] at h3
   obtain ⟨a1, a2, a3⟩ := hal x h3
   exact ⟨(hG x).2 ⟨a3, a2⟩, (hE x e).2 (.inl ⟨h3, rfl⟩)⟩
  ·rw [hLo e (hEp v e h5 h6)] at h3
   have h8 := hst v e h5 h4 h6 h7
   obtain ⟨a1, a2⟩ := h.lx v e x h5 h6 h3
   exact ⟨(hG x).2 ⟨hxp v e x h5 h4 h6 h8 h3, a1⟩, (hE x e).2 (.inr ⟨a2, fun _ => h8⟩)⟩
 -- the degree
 ·obtain ⟨hip, hgi⟩ := (hG i).1 hg
  have hd := h.dg i hi hgi
  have hdS : dgS adj (gnS q) i = nB adj.length (bT adj (gnS q) i) := rfl
  have hdN : dgS adj (gnS (qgN adj.length q p)) i = nB adj.length (bT adj (gnS (qgN adj.length q p)) i) := rfl
  show (dgS adj (gnS (qgN adj.length q p)) i : Int) ≤ nxD adj.length q.A q.E q.L q.D ((adj.length : Int) - (nB adj.length (upd q.G p true) : Int)) p i
  unfold nxD
  by_cases ha : allB adj.length q.A q.E q.L p i = true
  ·rw [if_pos ha, hleft]
   have hout := nB_out (P := allB adj.length q.A q.E q.L p) hi ha
   have hnx : ∀ x, (qgN adj.length q p).A i x = nxA adj.length q.A q.E q.L p i x := fun x => rfl
   unfold nxB
   refine min3_ge ?_ ?_ ?_
   ·have h1 : nB adj.length (bT adj (gnS (qgN adj.length q p)) i) ≤ nB adj.length (fun x => bT adj (gnS q) i x || (allB adj.length q.A q.E q.L p x && decide (x ≠ i))) := nB_mono fun x _ hx => by
     obtain ⟨_, _, h3 | ⟨h3, _, h4⟩⟩ := (bt_next hV h hp i x).1 hx
     ·rw [h3, Bool.true_or]
     ·rw [h4, decide_eq_true (show x ≠ i from fun e => h3 e.symm)]; simp
    have h2 := nB_sub (n := adj.length) (P := bT adj (gnS q) i) (Q := fun x => allB adj.length q.A q.E q.L p x && decide (x ≠ i))
    omega
   ·have h1 := nB_or (n := adj.length) (p := upd (qgN adj.length q p).G i true) (q := bT adj (gnS (qgN adj.length q p)) i) fun x hx hu => by
     rw [Bool.eq_false_iff]
     intro hb
     obtain ⟨b1, b2, b3, _⟩ := bT_iff.1 hb
     unfold upd at hu
     split at hu
     ·rename_i e; exact b1 e.symm
     ·exact b3 hu
    have h2 := nB_new (P := (qgN adj.length q p).G) hi hg
    have h3 := nB_le adj.length (fun x => upd (qgN adj.length q p).G i true x || bT adj (gnS (qgN adj.length q p)) i x)
    omega
   ·have h1 : nB adj.length (bT adj (gnS (qgN adj.length q p)) i) ≤ nB adj.length (fun x => (nxA adj.length q.A q.E q.L p i x || (allB adj.length q.A q.E q.L p x && decide (x ≠ i))) || (List.range adj.length).any fun e => (nxE adj.length q.A q.E q.L p i e && decide (e ≠ p)) && (nxL adj.length q.A q.E q.L p e x && !allB adj.length q.A q.E q.L p x)) := nB_mono fun x _ hx => by
     obtain ⟨h3, h4 | ⟨e, h4, h5⟩⟩ := (hbt i x hi hg).1 hx
     ·rw [hnx] at h4
      rw [h4]; simp
     ·cases hax : allB adj.length q.A q.E q.L p x with
      | true => rw [decide_eq_true h3]; simp
      | false =>
        have hep : e ≠ p := fun e1 => by subst e1; rw [hLp, hax] at h5; cases h5
        have her : e < adj.length := by
         rcases (hE i e).1 h4 with ⟨_, e1⟩ | ⟨e1, _⟩
         ·exact absurd e1 hep
         ·exact (h.rE i e e1).2
        rw [Bool.or_eq_true, List.any_eq_true]
        refine .inr ⟨e, List.mem_range.2 her, ?_⟩
        have h4' : nxE adj.length q.A q.E q.L p i e = true := h4
        have h5' : nxL adj.length q.A q.E q.L p e x = true := h5
        rw [h4', h5', decide_eq_true hep]; rfl
    have h2 := nB_sub (n := adj.length) (P := fun x => nxA adj.length q.A q.E q.L p i x || (allB adj.length q.A q.E q.L p x && decide (x ≠ i))) (Q := fun x => (List.range adj.length).any fun e => (nxE adj.length q.A q.E q.L p i e && decide (e ≠ p)) && (nxL adj.length q.A q.E q.L p e x && !allB adj.length q.A q.E q.L p x))
    have h3 := nB_sub (n := adj.length) (P := nxA adj.length q.A q.E q.L p i) (Q := fun x => allB adj.length q.A q.E q.L p x && decide (x ≠ i))
    have h4 := nB_any (n := adj.length) (d := fun e => nxE adj.length q.A q.E q.L p i e && decide (e ≠ p)) (P := fun e x => nxL adj.length q.A q.E q.L p e x && !allB adj.length q.A q.E q.L p x) adj.length
    omega
  ·rw [if_neg ha]
   have h1 : nB adj.length (bT adj (gnS (qgN adj.length q p)) i) ≤ nB adj.length (bT adj (gnS q) i) := nB_mono fun x _ hx => by
    obtain ⟨_, _, h3 | ⟨_, h3, _⟩⟩ := (bt_next hV h hp i x).1 hx
    ·exact h3
    ·exact absurd h3 ha
   omega
end
section
variable {adj : List (List Int)} (hV : Valid adj) (hn : adj.length ≤ 200)
include hV hn
theorem qgK_inv : ∀ k, k ≤ adj.length → QInv adj k (qgK adj k) ∧ (k < adj.length → IsMn (qgK adj k).D (qgK adj k).G adj.length (qgO adj k)) := by
 have mn : ∀ k q, k < adj.length → QInv adj k q → ∃ p, IsMn q.D q.G adj.length p := fun k q hk h => by
  refine mn_ex adj.length (Classical.byContradiction fun hno => ?_)
  have e : nB adj.length q.G = nB adj.length (fun _ => true) := nB_congr fun i hi => by
   cases hg : q.G i with
   | true => rfl
   | false => exact absurd ⟨i, hi, hg⟩ hno
  rw [h.ct] at e
  have : nB adj.length (fun _ => true) = adj.length := by unfold nB; rw [List.filter_eq_self.2 (by simp)]; simp
  omega
 intro k
 induction k with
 | zero =>
   intro _
   refine ⟨qinv0 hV hn, fun h0 => ?_⟩
   obtain ⟨p, hp⟩ := mn 0 _ h0 (qinv0 hV hn)
   have : qgO adj 0 = p := qgP_eq hp
   rw [this]; exact hp
 | succ k ih =>
   intro hk
   obtain ⟨h1, h2⟩ := ih (by omega)
   have h3 : QInv adj (k + 1) (qgK adj (k + 1)) := qinv_next hV hn h1 (h2 (by omega))
   refine ⟨h3, fun h0 => ?_⟩
   obtain ⟨p, hp⟩ := mn (k + 1) _ h0 h3
   have : qgO adj (k + 1) = p := qgP_eq hp
   rw [this]; exact hp
end
end Go.Fw
end
section
namespace Go.Fw
open Go
theorem nB_zero {n : Nat} : nB n (fun _ => false) = 0 := by unfold nB; rw [List.filter_eq_nil_iff.2 (by simp)]; rfl
theorem sM_zero {n : Nat} : sM n (fun _ => false) 0 = some ([], 0) := by
 unfold sM sL
 rw [List.filter_eq_nil_iff.2 (by simp)]; rfl
section
variable {adj : List (List Int)} (hV : Valid adj) (hn : adj.length ≤ 200)
include hV hn
theorem newQ_eq : d_mindeg_newQuotient ((adj, ()), ()) =
  some ((fT adj.length (fun v => sM adj.length (nbB adj v) (nB adj.length (nbB adj v))), (fT adj.length (fun v => sM adj.length (fun _ => false) 0), (fT adj.length (fun _ => none), (fT adj.length (fun v => (((adj.getD v []).length : Nat) : Int)), (fT adj.length (fun _ => false), ((adj.length : Int), ())))))), ()) := by
 unfold d_mindeg_newQuotient
 simp only [madeO_ok (show adj.length ≤ 4294967296 by omega), Option.bind_some, fT_replicate]
 refine bindR ((fT adj.length (fun v => sM adj.length (nbB adj v) (nB adj.length (nbB adj v))), (fT adj.length (fun v => sM adj.length (fun _ => false) 0), (fT adj.length (fun _ => none), (fT adj.length (fun v => (((adj.getD v []).length : Nat) : Int)), (fT adj.length (fun _ => false), ((adj.length : Int), ())))))), ()) rfl ?_
 refine loop_for adj.length (fun k => ((fT adj.length (pre k (fun v => sM adj.length (nbB adj v) (nB adj.length (nbB adj v))) (fun _ => none)), (fT adj.length (pre k (fun v => sM adj.length (fun _ => false) 0) (fun _ => none)), (fT adj.length (fun _ => none), (fT adj.length (pre k (fun v => (((adj.getD v []).length : Nat) : Int)) (fun _ => 0)), (fT adj.length (fun _ => false), ((adj.length : Int), ())))))), ())) 0 rfl ?_ (Nat.zero_le _) ?_ ?_
 ·rw [pre_zero, pre_zero, pre_zero]
 ·intro v _ hv
  have hrow := (Valid_iff adj).1 hV v hv
  have hgd : adj.getD v [] = adj[v] := getD_lt hv []
  have hlen : adj[v].length ≤ adj.length := by
   rw [← hgd, row_nB hV hv, natL_length]; exact nB_le _ _
  simp (disch := omega) only [cond_dec, if_pos, getN_some (List.getElem?_eq_getElem hv), Option.bind_some, fT_length, idxN_nat, atO_fT, fT_set, Option.map_some]
  refine bindR ((fT adj.length (pre (v + 1) (fun v => sM adj.length (nbB adj v) (nB adj.length (nbB adj v))) (fun _ => none)), (fT adj.length (pre (v + 1) (fun v => sM adj.length (fun _ => false) 0) (fun _ => none)), (fT adj.length (fun _ => none), (fT adj.length (pre (v + 1) (fun v => (((adj.getD v []).length : Nat) : Int)) (fun _ => 0)), (fT adj.length (fun _ => false), ((adj.length : Int), ())))))), ()) (by simp (disch := omega) only [wrap_inc]) ?_
  rw [pre_put (P := fun v => sM adj.length (fun _ => false) 0) sM_zero.symm, pre_put (P := fun v => (((adj.getD v []).length : Nat) : Int)) (by rw [hgd])]
  refine loop_for adj[v].length (fun j => ((fT adj.length (upd (pre v (fun v => sM adj.length (nbB adj v) (nB adj.length (nbB adj v))) (fun _ => none)) v (sM adj.length (fun x => decide ((x : Int) ∈ adj[v].take j)) (nB adj.length (fun x => decide ((x : Int) ∈ adj[v].take j))))), (fT adj.length (pre (v + 1) (fun v => sM adj.length (fun _ => false) 0) (fun _ => none)), (fT adj.length (fun _ => none), (fT adj.length (pre (v + 1) (fun v => (((adj.getD v []).length : Nat) : Int)) (fun _ => 0)), (fT adj.length (fun _ => false), ((adj.length : Int), ())))))), ())) 0 rfl ?_ (Nat.zero_le _) ?_ ?_
  ·have e : (fun x : Nat => decide ((x : Int) ∈ adj[v].take 0)) = fun _ => false := by funext x; simp
   rw [e, nB_zero, sM_zero]
  ·intro j _ hj
   have hr := hrow.2 j hj
   obtain ⟨w, hw⟩ : ∃ w : Nat, adj[v][j] = (w : Int) := ⟨adj[v][j].toNat, by omega⟩
   have hwn : w < adj.length := by omega
   simp (disch := omega) only [cond_dec, if_pos, getN_some (List.getElem?_eq_getElem hj), hw, Option.bind_some, fT_length, idxN_nat, atO_fT, fT_set, Option.map_some, upd_same, updd, mUp_cl hwn, wrap_inc]
   rw [sM_cl (P := upd (fun x => decide ((x : Int) ∈ adj[v].take j)) w true) (Q := fun x => decide ((x : Int) ∈ adj[v].take (j + 1))) (fun x hx => by
    rw [take_snoc hj |>.symm] at *
    unfold upd
    split
    ·rename_i e; subst e; simp [hw]
    ·rename_i e
     have : (x : Int) ≠ (w : Int) := by omega
     simp [hw, this])]
  ·simp (disch := omega) only [cond_dec, if_neg]
   rw [sM_cl (P := fun x => decide ((x : Int) ∈ adj[v].take adj[v].length)) (Q := nbB adj v) (fun x hx => by
    rw [List.take_length]
    unfold nbB; rw [hgd]), pre_put rfl]
 ·simp (disch := omega) only [cond_dec, if_neg]
  rw [pre_end, pre_end, pre_end]
noncomputable def qgOL (adj : List (List Int)) (k : Nat) : List Int := fT k fun j => ((qgO adj j : Nat) : Int)
noncomputable def qgBL (adj : List (List Int)) (k : Nat) : List Int := fT k fun j => qgB adj j
theorem approx_eq : d_mindeg_approx ((adj, ()), ()) = some (qgOL adj adj.length, qgBL adj adj.length, 0, ()) := by
 classical
 have h0 : chk adj = 0 := chk_zero.2 ⟨hn, hV⟩
 unfold d_mindeg_approx
 simp only [Check_eq adj (hV.hc hn), h0, Option.bind_some, bne_self_eq_false, cond_false, newQ_eq hV hn]
 refine bindR (qgOL adj adj.length, qgBL adj adj.length, ()) rfl ?_
 rw [← Ok.eq_iff]
 refine Ok.seq adj.length (fun k s => ∃ (cA cE : Nat → Nat) (M : Nat → Option (List (Int × Bool) × Nat)), (∀ e, e < adj.length → IsS adj.length (M e) ((qgK adj k).L e)) ∧ s = (qgOL adj k, qgBL adj k, (fT adj.length (fun v => sM adj.length ((qgK adj k).A v) (cA v)), (fT adj.length (fun v => sM adj.length ((qgK adj k).E v) (cE v)), (fT adj.length M, (fT adj.length (qgK adj k).D, (fT adj.length (qgK adj k).G, ((adj.length : Int) - (k : Int), ())))))), ())) 0 ⟨fun v => nB adj.length (nbB adj v), fun _ => 0, fun _ => none, fun e _ => .inl ⟨rfl, fun _ _ => rfl⟩, ?_⟩ (Nat.zero_le _) ?_ ?_
 ·rw [show (adj.length : Int) - ((0 : Nat) : Int) = adj.length by omega]
  rfl
 ·rintro k _ _ hk ⟨cA, cE, M, hM, rfl⟩
  obtain ⟨h, hp⟩ := qgK_inv hV hn k (by omega)
  have hp := hp hk
  have hpn := hp.1
  have l1 : (qgOL adj k).length + [((qgO adj k : Nat) : Int)].length ≤ 4294967296 := by unfold qgOL; rw [fT_length, List.length_singleton]; omega
  have l2 : (qgBL adj k).length + [(qgK adj k).D (qgO adj k)].length ≤ 4294967296 := by unfold qgBL; rw [fT_length, List.length_singleton]; omega
  have hlt2 : ∀ v, v < adj.length → allB adj.length (qgK adj k).A (qgK adj k).E (qgK adj k).L (qgO adj k) v = true → 2 ≤ (adj.length : Int) - k := fun v _ hv => by have := all_left h hp hv; omega
  obtain ⟨cA', cE', c, he⟩ := elimq_eq (G := (qgK adj k).G) (left := (adj.length : Int) - k) (cA := cA) (cE := cE) hn hpn hM h.dr (by omega) hlt2
  simp (disch := omega) only [cond_dec, if_pos, leastq_eq hn hp, Option.bind_some, limO_ok l1, limO_ok l2, fT_length, idxN_nat, atO_fT, he]
  refine Ok.some_iff.2 ⟨cA', cE', upd M (qgO adj k) (sM adj.length (allB adj.length (qgK adj k).A (qgK adj k).E (qgK adj k).L (qgO adj k)) c), ?_, ?_⟩
  ·intro e he
   show IsS adj.length _ (nxL adj.length (qgK adj k).A (qgK adj k).E (qgK adj k).L (qgO adj k) e)
   unfold nxL upd
   split
   ·exact .inr ⟨c, rfl⟩
   ·exact hM e he
  ·have hK : qgK adj (k + 1) = qgN adj.length (qgK adj k) (qgO adj k) := rfl
   have hct : nB adj.length (upd (qgK adj k).G (qgO adj k) true) = k + 1 := by rw [nB_new hpn hp.2.1, h.ct]
   rw [hK]
   unfold qgN qgOL qgBL
   rw [fT_succ, fT_succ]
   simp only
   rw [hct, show (adj.length : Int) - ((k + 1 : Nat) : Int) = (adj.length : Int) - k - 1 by omega]
   rfl
 ·rintro _ ⟨cA, cE, M, hM, rfl⟩
  simp (disch := omega) only [cond_dec, if_neg]
  exact Ok.some_iff.2 rfl
theorem Approx_eq : d_mindeg_Approx ((adj, ()), ()) = some (qgOL adj adj.length, 0, ()) := by
 unfold d_mindeg_Approx
 simp only [approx_eq hV hn, Option.bind_some]
theorem Bounds_eq : d_mindeg_Bounds ((adj, ()), ()) = some (qgBL adj adj.length, 0, ()) := by
 unfold d_mindeg_Bounds
 simp only [approx_eq hV hn, Option.bind_some]
theorem Method_eq : d_sparseref16q_Method ((adj, ()), ()) = some (qgOL adj adj.length, qgBL adj adj.length, ()) := by
 unfold d_sparseref16q_Method
 have hr : ∀ v, (h : v < adj.length) → ∀ x ∈ adj[v], 0 ≤ x ∧ x < (adj.length : Int) := fun v h x hx => by
  obtain ⟨m, hm, rfl⟩ := List.mem_iff_getElem.1 hx
  exact (((Valid_iff adj).1 hV v h).2 m hm).1
 have hT : tabT adj = mT adj.length (nbB adj) := rfl
 simp only [Table_eq (hV.hc hn) hn hr, hT, madeO_ok (show adj.length ≤ 4294967296 by omega), Option.bind_some, fT_replicate]
 refine bindR ((mT adj.length (nbB adj), (mT adj.length (fun _ _ => false), (mT adj.length (fun _ _ => false), (fT adj.length (fun v => (((adj.getD v []).length : Nat) : Int)), (fT adj.length (fun _ => false), ()))))), ()) ?_ ?_
 ·refine bindR (qgOL adj adj.length, qgBL adj adj.length, ()) rfl ?_
  refine loop_for adj.length (fun k => ((mT adj.length (qgK adj k).A, (mT adj.length (qgK adj k).E, (mT adj.length (qgK adj k).L, (fT adj.length (qgK adj k).D, (fT adj.length (qgK adj k).G, ()))))), qgOL adj k, qgBL adj k, ())) 0 rfl rfl (Nat.zero_le _) ?_ ?_
  ·intro k _ hk
   obtain ⟨h, hp⟩ := qgK_inv hV hn k (by omega)
   have hp := hp hk
   have l1 : (qgOL adj k).length + [((qgO adj k : Nat) : Int)].length ≤ 4294967296 := by unfold qgOL; rw [fT_length, List.length_singleton]; omega
   have l2 : (qgBL adj k).length + [(qgK adj k).D (qgO adj k)].length ≤ 4294967296 := by unfold qgBL; rw [fT_length, List.length_singleton]; omega
   simp (disch := omega) only [cond_dec, if_pos, step_eq hn hp h.dr, Option.bind_some, limO_ok l1, limO_ok l2, wrap_inc]
   unfold qgOL qgBL
   rw [fT_succ, fT_succ]
   rfl
  ·simp (disch := omega) only [cond_dec, if_neg]
 ·refine loop_for adj.length (fun k => ((mT adj.length (nbB adj), (fT k (fun _ => fT adj.length fun _ => false), (fT k (fun _ => fT adj.length fun _ => false), (fT k (fun v => (((adj.getD v []).length : Nat) : Int)), (fT adj.length (fun _ => false), ()))))), ())) 0 rfl rfl (Nat.zero_le _) ?_ ?_
  ·intro k _ hk
   have hl : ∀ (x : List Bool), (fT k (fun _ => fT adj.length fun _ => false)).length + [x].length ≤ 4294967296 := fun x => by rw [fT_length, List.length_singleton]; omega
   have hl2 : ∀ (x : Int), (fT k (fun v => (((adj.getD v []).length : Nat) : Int))).length + [x].length ≤ 4294967296 := fun x => by rw [fT_length, List.length_singleton]; omega
   simp (disch := omega) only [cond_dec, if_pos, madeO_ok (show adj.length ≤ 4294967296 by omega), Option.bind_some, fT_replicate, limO_ok (hl _), getN_some (List.getElem?_eq_getElem hk), limO_ok (hl2 _), wrap_inc]
   rw [fT_succ, fT_succ, getD_lt hk]
  ·simp (disch := omega) only [cond_dec, if_neg]
   rfl
theorem refApprox_eq : d_sparseref16q_Approx ((adj, ()), ()) = some (qgOL adj adj.length, 0, ()) := by
 have h0 : chk adj = 0 := chk_zero.2 ⟨hn, hV⟩
 unfold d_sparseref16q_Approx
 simp only [refCheck_eq adj (hV.hc hn), h0, Option.bind_some, bne_self_eq_false, cond_false, Method_eq hV hn]
theorem refBounds_eq : d_sparseref16q_Bounds ((adj, ()), ()) = some (qgBL adj adj.length, 0, ()) := by
 have h0 : chk adj = 0 := chk_zero.2 ⟨hn, hV⟩
 unfold d_sparseref16q_Bounds
 simp only [refCheck_eq adj (hV.hc hn), h0, Option.bind_some, bne_self_eq_false, cond_false, Method_eq hV hn]
end
end Go.Fw
end
section
namespace Go.Fw
open Go
theorem small16 (adj : List (List Int)) : Ok (d_sparselaw16q_small ((adj, ()), ())) (fun r => r.1 = true → adj.length ≤ 400 ∧ (adj.length ≤ 200 → adj.length ≤ 10) ∧ ∀ l ∈ adj, l.length ≤ 20) := by
 unfold d_sparselaw16q_small
 refine Ok.bind_of (P := fun q => match q with | .inl _ => adj.length ≤ 400 ∧ (adj.length ≤ 200 → adj.length ≤ 10) | .inr r => r = (false, ())) ?_ ?_
 ·simp only [cond_dec, cond_dec_beq, cond_dec_beqF]
  refine Ok.ite (fun h1 => Ok.ite (fun h2 => Ok.some_iff.2 rfl) (fun h2 => Ok.ite (fun h3 => Ok.some_iff.2 rfl) (fun h3 => Ok.some_iff.2 ⟨by omega, fun h => by omega⟩))) (fun h1 => Ok.ite (fun h3 => Ok.some_iff.2 rfl) (fun h3 => Ok.some_iff.2 ⟨by omega, fun h => by omega⟩))
 ·rintro (q | q) hq
  ·refine Ok.bind_of (P := fun q => match q with | .inl _ => ∀ l ∈ adj, l.length ≤ 20 | .inr r => r = (false, ())) ?_ ?_
   ·refine Ok.for adj.length (fun i _ => ∀ k, (h : k < adj.length) → k < i → adj[k].length ≤ 20) (i0 := 0) rfl (fun k _ h => by omega) (Nat.zero_le _) ?_ ?_
    ·rintro i ⟨⟩ _ hi hI
     simp (disch := omega) only [cond_dec, if_pos, getN_some (List.getElem?_eq_getElem hi), Option.bind_some, wrap_inc]
     refine Ok.ite (fun h => Ok.some_iff.2 rfl) (fun h => Ok.some_iff.2 ⟨rfl, fun k hk hki => ?_⟩)
     by_cases e : k = i
     ·subst e; omega
     ·exact hI k hk (by omega)
    ·rintro ⟨⟩ hI
     simp (disch := omega) only [cond_dec, if_neg]
     exact Ok.some_iff.2 (fun l hl => by obtain ⟨k, hk, rfl⟩ := List.mem_iff_getElem.1 hl; exact hI k hk hk)
   ·rintro (r | r) hr
    ·exact Ok.some_iff.2 (fun _ => ⟨hq.1, hq.2, hr⟩)
    ·have hr : r = (false, ()) := hr
     subst hr
     exact Ok.some_iff.2 (fun h => by cases h)
  ·have hq : q = (false, ()) := hq
   subst hq
   exact Ok.some_iff.2 (fun h => by cases h)
section
variable {adj : List (List Int)} (hc : ∀ l ∈ adj, l.length < 4611686018427387904)
include hc
theorem exactAny : d_mindeg_Exact ((adj, ()), ()) = some (if chk adj = 0 then natL (mdK adj adj.length) else [], chk adj, ()) ∧ d_sparseref16q_Exact ((adj, ()), ()) = some (if chk adj = 0 then natL (mdK adj adj.length) else [], chk adj, ()) := by
 by_cases h0 : chk adj = 0
 ·obtain ⟨hn, hV⟩ := chk_zero.1 h0
  rw [if_pos h0, h0]
  exact ⟨Exact_eq hV hn, refExact_eq hV hn⟩
 ·rw [if_neg h0]
  have : (chk adj != 0) = true := by simpa using h0
  constructor
  ·unfold d_mindeg_Exact
   simp only [Check_eq adj hc, Option.bind_some, this, cond_true]
  ·unfold d_sparseref16q_Exact
   simp only [refCheck_eq adj hc, Option.bind_some, this, cond_true]
theorem approxAny : d_mindeg_Approx ((adj, ()), ()) = some (if chk adj = 0 then qgOL adj adj.length else [], chk adj, ()) ∧ d_sparseref16q_Approx ((adj, ()), ()) = some (if chk adj = 0 then qgOL adj adj.length else [], chk adj, ()) := by
 by_cases h0 : chk adj = 0
 ·obtain ⟨hn, hV⟩ := chk_zero.1 h0
  rw [if_pos h0, h0]
  exact ⟨Approx_eq hV hn, refApprox_eq hV hn⟩
 ·rw [if_neg h0]
  have : (chk adj != 0) = true := by simpa using h0
  constructor
  ·unfold d_mindeg_Approx d_mindeg_approx
   simp only [Check_eq adj hc, Option.bind_some, this, cond_true]
  ·unfold d_sparseref16q_Approx
   simp only [refCheck_eq adj hc, Option.bind_some, this, cond_true]
theorem boundsAny : d_mindeg_Bounds ((adj, ()), ()) = some (if chk adj = 0 then qgBL adj adj.length else [], chk adj, ()) ∧ d_sparseref16q_Bounds ((adj, ()), ()) = some (if chk adj = 0 then qgBL adj adj.length else [], chk adj, ()) := by
 by_cases h0 : chk adj = 0
 ·obtain ⟨hn, hV⟩ := chk_zero.1 h0
  rw [if_pos h0, h0]
  exact ⟨Bounds_eq hV hn, refBounds_eq hV hn⟩
 ·rw [if_neg h0]
  have : (chk adj != 0) = true := by simpa using h0
  constructor
  ·unfold d_mindeg_Bounds d_mindeg_approx
   simp only [Check_eq adj hc, Option.bind_some, this, cond_true]
  ·unfold d_sparseref16q_Bounds
   simp only [refCheck_eq adj hc, Option.bind_some, this, cond_true]
theorem degreesAny (ho : adj.length ≤ 200 → Valid adj → adj.length ≤ 12) (o : List Int) (hol : o.length < 4611686018427387904) :
  d_mindeg_Degrees ((adj, ()), o, ()) = some (if permE adj o = 0 then fT adj.length (fun k => (dgN adj o k : Int)) else [], permE adj o, ()) ∧ d_sparseref16q_Degrees ((adj, ()), o, ()) = some (if permE adj o = 0 then fT adj.length (fun k => (dgN adj o k : Int)) else [], permE adj o, ()) := by
 classical
 by_cases h0 : permE adj o = 0
 ·obtain ⟨hn, hV, hp⟩ := perm_of h0
  rw [if_pos h0, h0]
  exact ⟨Degrees_eq hV (ho hn hV) hp, refDegrees_ok hV hn hp⟩
 ·rw [if_neg h0]
  have : (permE adj o != 0) = true := by simpa using h0
  constructor
  ·unfold d_mindeg_Degrees
   simp only [Permuted_eq hc o ho hol, Option.bind_some, this, cond_true]
  ·unfold d_sparseref16q_Degrees
   unfold permE at h0 ⊢
   simp only [refCheck_eq adj hc, Option.bind_some, bneI]
   by_cases h1 : chk adj = 0
   ·obtain ⟨hn, hV⟩ := chk_zero.1 h1
    simp only [h1, decide_true, Bool.not_true, cond_false, ne_eq, not_true_eq_false, if_false] at h0 ⊢
    by_cases hl : o.length = adj.length
    ·have e : ((o.length : Nat) : Int) = ((adj.length : Nat) : Int) := by rw [hl]
     simp only [hl, not_true_eq_false, if_false] at h0
     simp only [e, decide_true, Bool.not_true, cond_false, hl, not_true_eq_false, if_false, Perm_eq o adj.length (by omega), Option.bind_some]
     by_cases hp : IsPerm o adj.length
     ·exact absurd (if_pos hp) h0
     ·simp only [hp, decide_false, Bool.not_false, cond_true, if_false]
    ·have e : ¬ ((o.length : Nat) : Int) = ((adj.length : Nat) : Int) := by omega
     simp only [e, decide_false, Bool.not_false, cond_true, hl, not_false_eq_true, if_true]
   ·simp only [h1, decide_false, Bool.not_false, cond_true, ne_eq, not_false_eq_true, if_true]
end
theorem MindegAny_true (adj : List (List Int)) (o : List Int) : d_sparselaw16q_MindegAny ((adj, ()), o, ()) = some (true, ()) := by
 classical
 rw [← Ok.eq_iff]
 unfold d_sparselaw16q_MindegAny
 refine Ok.bind_of (P := fun q => q = .inr (true, ()) ∨ (q = .inl () ∧ adj.length ≤ 400 ∧ (adj.length ≤ 200 → adj.length ≤ 10) ∧ (∀ l ∈ adj, l.length ≤ 20) ∧ o.length ≤ 20)) ?_ ?_
 ·refine Ok.bind_of (P := fun q => q.1 = true ∨ (q.1 = false ∧ adj.length ≤ 400 ∧ (adj.length ≤ 200 → adj.length ≤ 10) ∧ (∀ l ∈ adj, l.length ≤ 20) ∧ o.length ≤ 20)) ?_ ?_
  ·refine Ok.bind_of (small16 adj) ?_
   rintro ⟨b, ⟨⟩⟩ hb
   cases b with
   | false => exact Ok.some_iff.2 (.inl rfl)
   | true =>
     obtain ⟨h1, h2, h3⟩ := hb rfl
     simp only [Bool.not_true, show (false == false) = true from rfl, cond_true]
     by_cases h4 : ((o.length : Nat) : Int) > 20
     ·exact Ok.some_iff.2 (.inl (decT h4))
     ·exact Ok.some_iff.2 (.inr ⟨decF h4, h1, h2, h3, by omega⟩)
  ·rintro ⟨b, ⟨⟩⟩ (hb | ⟨hb, h⟩)
   ·simp only at hb
    subst hb
    simp only [cond_true, awake16, Option.bind_some]
    exact Ok.some_iff.2 (.inl rfl)
   ·simp only at hb
    subst hb
    exact Ok.some_iff.2 (.inr ⟨rfl, h⟩)
 ·rintro q (rfl | ⟨rfl, h1, h2, h3, h4⟩)
  ·exact Ok.some_iff.2 rfl
  have hlim : lim = 4294967296 := rfl
  have hc : ∀ l ∈ adj, l.length < 4611686018427387904 := fun l hl => by have := h3 l hl; omega
  have t1 : d_sparsekit_TwinGraph ((adj, ()), ()) = some ((adj, ()), ()) := by
   unfold d_sparsekit_TwinGraph
   simp only [TwinLists_eq adj (by omega) (fun l hl => by have := h3 l hl; omega), Option.bind_some]
  have t2 : d_sparsekit_Graph ((adj, ()), (adj, ()), ()) = some (true, ()) := by
   unfold d_sparsekit_Graph
   simp only [Lists_eq adj adj (by omega) hc, Option.bind_some, beq_self_eq_true]
  have n1 : (if chk adj = 0 then natL (mdK adj adj.length) else []).length < 4611686018427387904 := by
   split
   ·rw [natL_length, mdK_length]; omega
   ·decide
  have n2 : (if chk adj = 0 then qgOL adj adj.length else []).length < 4611686018427387904 := by
   split
   ·unfold qgOL; rw [fT_length]; omega
   ·decide
  have n3 : (if chk adj = 0 then qgBL adj adj.length else []).length < 4611686018427387904 := by
   split
   ·unfold qgBL; rw [fT_length]; omega
   ·decide
  have n4 : (if permE adj o = 0 then fT adj.length (fun k => (dgN adj o k : Int)) else []).length < 4611686018427387904 := by
   split
   ·rw [fT_length]; omega
   ·decide
  obtain ⟨a1, a2⟩ := exactAny hc
  obtain ⟨b1, b2⟩ := approxAny hc
  obtain ⟨c1, c2⟩ := boundsAny hc
  obtain ⟨d1, d2⟩ := degreesAny hc (fun h _ => by have := h2 h; omega) o (by omega)
  simp only [t1, t2, a1, a2, b1, b2, c1, c2, d1, d2, Option.bind_some, Ints_eq _ _ n1, Ints_eq _ _ n2, Ints_eq _ _ n3, Ints_eq _ _ n4, beq_self_eq_true, cond_true, awake16]
  exact Ok.some_iff.2 rfl
end Go.Fw
end