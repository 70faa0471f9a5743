/-
  Parts of the proof: Dn17, Tw17, Gr_17, Ok17, Pl2, Pl5, Pl6, Pl8, Pl9, Pl10, Pl12: the framework (Fw), pure forms (Dn), plain laws (Pl, Th), calls of functions (Ok).
-/
import Derived.RangeFuncBox
import Derived.RangeFuncLeaves
import Derived.Shelf.Abstract
import Derived.WalkKit
import Derived.OwnWalkIn
import Derived.TacticsInMore
import Derived.LoopNIn
import Derived.LoopIn
import Derived.Maps.AppendAt
import Derived.Shelf.Slices.CompactI
import Derived.Lib.OwnBridge
import Derived.Test.YtjkaiaioghjnoaaProg
import Derived.KernelRfl
import Derived.Shelf.Spec.SlicesGrow
import Derived.Test.YtjkaiaioghjnoaaBab6727a0

set_option linter.all false
section
namespace Go.Fw
noncomputable def d_graph_levels : (((List (List Int)) × Unit) × Int × Unit) → Option ((List (List Int)) × Unit) := fun (g_1, root_2, _) =>
  (madeO (((g_1.1).length : Nat) : Int) (((g_1.1).length : Nat) : Int)).bind fun n48 =>
  (idxN ((List.replicate n48 false)).length root_2).bind fun k49 =>
  ((atO (List.replicate n48 false) k49 fun _ => some (((List.replicate n48 false)).set k49 true))).bind fun z51 =>
  (loop (σ := ((List Int) × (List Bool) × (List (List Int)) × Unit)) (ρ := ((List (List Int)) × Unit)) (fun (now_52, seen_53, out_54, _) =>
  (bif (decide ((((now_52).length : Nat) : Int) > ((0) : Int))) then (
  (limO ((out_54).length + ([now_52]).length)).bind fun _ =>
  (loop (σ := (Int × (List Bool) × (List (List Int)) × (List Int) × Unit)) (ρ := ((List Bool) × (List (List Int)) × (List Int) × Unit)) (fun (s_55, seen_56, out_57, next_58, _) =>
  (bif (decide (s_55 < (((now_52).length : Nat) : Int))) then (
  (getI now_52 s_55).bind fun y59 =>
  (getI g_1.1 y59).bind fun y60 =>
  (loop (σ := (Int × (List Bool) × (List (List Int)) × (List Int) × Unit)) (ρ := ((List Bool) × (List (List Int)) × (List Int) × Unit)) (fun (s_61, seen_62, out_63, next_64, _) =>
  (bif (decide (s_61 < (((y60).length : Nat) : Int))) then (
  Option.bind (α := ((List Bool) × (List (List Int)) × (List Int) × Unit)) (
  (getI y60 s_61).bind fun y65 =>
  (idxN (seen_62).length y65).bind fun k66 =>
  ((atO seen_62 k66 fun e67 => some e67)).bind fun y68 =>
  (bif (!y68) then (
  (idxN (seen_62).length y65).bind fun k69 =>
  ((atO seen_62 k69 fun _ => some ((seen_62).set k69 true))).bind fun z71 =>
  (limO ((next_64).length + ([y65]).length)).bind fun _ =>
  some (z71, out_63, (next_64 ++ [y65]), ())) else (
  some (seen_62, out_63, next_64, ())))) fun (seen_72, out_73, next_74, _) =>
  some (.inl ((IntKind.i64.wrap (s_61 + ((1) : Int))), seen_72, out_73, next_74, ()))) else (
  some (.inr (seen_62, out_63, next_64, ()))))) (((0) : Int), seen_56, out_57, next_58, ())).bind fun (seen_75, out_76, next_77, _) =>
  some (.inl ((IntKind.i64.wrap (s_55 + ((1) : Int))), seen_75, out_76, next_77, ()))) else (
  some (.inr (seen_56, out_57, next_58, ()))))) (((0) : Int), seen_53, (out_54 ++ [now_52]), [], ())).bind fun (seen_78, out_79, next_80, _) =>
  (d_slices_Sort_int_int (next_80, ())).bind fun (m81, _) =>
  some (.inl (m81, seen_78, out_79, ()))) else (
  some (.inr (out_54, ()))))) ([root_2], z51, [], ())).bind fun (out_82, _) =>
  some (out_82, ())
noncomputable def d_slices_Grow_int_int : Unit × Int × Unit → Option (List Int × Unit) := fun a => (grSem a.2.1).map fun r => (r, ())
noncomputable def d_slices_Concat_int_int : ((List (List Int)) × Unit) → Option ((List Int) × Unit) := fun (slices_1, _) =>
  (loop (σ := (Int × Int × Unit)) (ρ := (Int × Unit)) (fun (size_2, s_3, _) =>
  (bif (decide (s_3 < (((slices_1).length : Nat) : Int))) then (
  Option.bind (α := (Int × Unit)) (
  (getI slices_1 s_3).bind fun y4 =>
  (bif (decide ((IntKind.i64.wrap (size_2 + (((y4).length : Nat) : Int))) < ((0) : Int))) then (
  none) else (
  some ((IntKind.i64.wrap (size_2 + (((y4).length : Nat) : Int))), ())))) fun (size_5, _) =>
  some (.inl (size_5, (IntKind.i64.wrap (s_3 + ((1) : Int))), ()))) else (
  some (.inr (size_2, ()))))) (((0) : Int), ((0) : Int), ())).bind fun (size_6, _) =>
  (d_slices_Grow_int_int ((), size_6, ())).bind fun (r7, _) =>
  (loop (σ := (Int × (List Int) × Unit)) (ρ := ((List Int) × Unit)) (fun (s_8, newslice_9, _) =>
  (bif (decide (s_8 < (((slices_1).length : Nat) : Int))) then (
  (getI slices_1 s_8).bind fun y10 =>
  (limO ((newslice_9).length + (y10).length)).bind fun _ =>
  some (.inl ((IntKind.i64.wrap (s_8 + ((1) : Int))), (newslice_9 ++ y10), ()))) else (
  some (.inr (newslice_9, ()))))) (((0) : Int), r7, ())).bind fun (newslice_11, _) =>
  some (newslice_11, ())
noncomputable def d_graph_Components : (((List (List Int)) × Unit) × Unit) → Option ((List (List Int)) × Unit) := fun (g_1, _) =>
  (d_graph_Check (g_1, ())).bind fun (r55, _) =>
  (bif (r55 != ((0) : Int)) then (
  some ([], ())) else (
  (madeO (((g_1.1).length : Nat) : Int) (((g_1.1).length : Nat) : Int)).bind fun n56 =>
  (loop (σ := (Int × (List Bool) × (List (List Int)) × Unit)) (ρ := ((List (List Int)) × Unit)) (fun (s_57, seen_58, out_59, _) =>
  (bif (decide (s_57 < (((g_1.1).length : Nat) : Int))) then (
  Option.bind (α := ((List Bool) × (List (List Int)) × Unit)) (
  (idxN (seen_58).length s_57).bind fun k60 =>
  ((atO seen_58 k60 fun e61 => some e61)).bind fun y62 =>
  (bif y62 then (
  some (seen_58, out_59, ())) else (
  (d_graph_levels (g_1, s_57, ())).bind fun (r63, _) =>
  (d_slices_Concat_int_int (r63, ())).bind fun (r64, _) =>
  (d_slices_Sort_int_int (r64, ())).bind fun (m65, _) =>
  (loop (σ := (Int × (List Bool) × (List (List Int)) × (List Int) × Unit)) (ρ := ((List Bool) × (List (List Int)) × (List Int) × Unit)) (fun (s_66, seen_67, out_68, part_69, _) =>
  (bif (decide (s_66 < (((m65).length : Nat) : Int))) then (
  (idxN (part_69).length s_66).bind fun k70 =>
  ((atO part_69 k70 fun e71 => some e71)).bind fun y72 =>
  (idxN (seen_67).length y72).bind fun k73 =>
  ((atO seen_67 k73 fun _ => some ((seen_67).set k73 true))).bind fun z75 =>
  some (.inl ((IntKind.i64.wrap (s_66 + ((1) : Int))), z75, out_68, part_69, ()))) else (
  some (.inr (seen_67, out_68, part_69, ()))))) (((0) : Int), seen_58, out_59, m65, ())).bind fun (seen_76, out_77, part_78, _) =>
  (limO ((out_77).length + ([part_78]).length)).bind fun _ =>
  some (seen_76, (out_77 ++ [part_78]), ())))) fun (seen_79, out_80, _) =>
  some (.inl ((IntKind.i64.wrap (s_57 + ((1) : Int))), seen_79, out_80, ()))) else (
  some (.inr (out_59, ()))))) (((0) : Int), (List.replicate n56 false), [], ())).bind fun (out_81, _) =>
  some (out_81, ())))
noncomputable def d_graph_Peripheral : (((List (List Int)) × Unit) × Int × Unit) → Option (Int × Unit) := fun (g_1, v_2, _) =>
  Option.bind (α := Unit ⊕ (Int × Unit)) (
  (d_graph_Check (g_1, ())).bind fun (r3, _) =>
  (bif ((r3 != ((0) : Int)) == false) then ((d_graph_vertex (g_1, v_2, ())).bind fun (r4, _) =>
  (bif (!r4) then (
  some (.inr ((-1 : Int), ()))) else (
  some (.inl ())))) else (some (.inr ((-1 : Int), ()))))) fun q => match q with
  | .inl _ => (
  (d_graph_levels (g_1, v_2, ())).bind fun (r5, _) =>
  (loop (σ := (Int × (List (List Int)) × Unit)) (ρ := (Int × Unit)) (fun (v_6, now_7, _) =>
  (getI now_7 (IntKind.i64.wrap ((((now_7).length : Nat) : Int) - ((1) : Int)))).bind fun y8 =>
  (getI y8 ((0) : Int)).bind fun y9 =>
  (loop (σ := (Int × Int × Unit)) (ρ := (Int × Unit)) (fun (w_10, s_11, _) =>
  (bif (decide (s_11 < (((y8).length : Nat) : Int))) then (
  Option.bind (α := (Int × Unit)) (
  (getI y8 s_11).bind fun y12 =>
  (getI g_1.1 y12).bind fun y13 =>
  (getI g_1.1 w_10).bind fun y14 =>
  (bif (decide ((((y13).length : Nat) : Int) < (((y14).length : Nat) : Int))) then (
  some (y12, ())) else (
  some (w_10, ())))) fun (w_15, _) =>
  some (.inl (w_15, (IntKind.i64.wrap (s_11 + ((1) : Int))), ()))) else (
  some (.inr (w_10, ()))))) (y9, ((0) : Int), ())).bind fun (w_16, _) =>
  (d_graph_levels (g_1, w_16, ())).bind fun (r17, _) =>
  (bif (decide ((((r17).length : Nat) : Int) ≤ (((now_7).length : Nat) : Int))) then (
  some (.inr (v_6, ()))) else (
  some (.inl (w_16, r17, ()))))) (v_2, r5, ())).bind some)
  | .inr r => some r
noncomputable def d_rcm_grow_1q_q0 : (Int × Int × (Option ((List (List Int)) × Unit)) × Unit) → Option (Int × Unit) := fun (a_1, b_2, p_3, _) =>
  (p_3).bind fun y4 =>
  (getI y4.1 a_1).bind fun y5 =>
  (p_3).bind fun y6 =>
  (getI y6.1 b_2).bind fun y7 =>
  (d_cmp_Compare_int ((((y5).length : Nat) : Int), (((y7).length : Nat) : Int), ())).bind fun (r8, _) =>
  (d_cmp_Compare_int (a_1, b_2, ())).bind fun (r9, _) =>
  (d_cmp_Or_int ([r8, r9], ())).bind fun (r10, _) =>
  some (r10, ())
noncomputable def d_slices_insertionSortCmpFunc_int_rcm : ((List Int) × Int × Int × ((Option ((List (List Int)) × Unit)) × Unit) × Unit) → Option ((List Int) × Unit) := fun (data_1, a_2, b_3, cmp_4, _) =>
  (loop (σ := (Int × (List Int) × Unit)) (ρ := ((List Int) × Unit)) (fun (i_5, data_6, _) =>
  (bif (decide (i_5 < b_3)) then (
  (loop (σ := (Int × (List Int) × Unit)) (ρ := ((List Int) × Unit)) (fun (j_7, data_8, _) =>
  Option.bind (α := ((List Int) × Unit) ⊕ ((Int × (List Int) × Unit) ⊕ ((List Int) × Unit))) (
  (bif ((decide (j_7 > a_2)) == true) then ((idxN (data_8).length j_7).bind fun k9 =>
  ((atO data_8 k9 fun e10 => some e10)).bind fun y11 =>
  (idxN (data_8).length (IntKind.i64.wrap (j_7 - ((1) : Int)))).bind fun k12 =>
  ((atO data_8 k12 fun e13 => some e13)).bind fun y14 =>
  (d_rcm_grow_1q_q0 (y11, y14, cmp_4.1, ())).bind fun (r15, _) =>
  (bif (decide (r15 < ((0) : Int))) then (
  some (.inl (data_8, ()))) else (
  some (.inr (.inr (data_8, ())))))) else (some (.inr (.inr (data_8, ())))))) fun q => match q with
  | .inl (data_16, _) => (
  (idxN (data_16).length (IntKind.i64.wrap (j_7 - ((1) : Int)))).bind fun k17 =>
  ((atO data_16 k17 fun e18 => some e18)).bind fun y19 =>
  (idxN (data_16).length j_7).bind fun k20 =>
  ((atO data_16 k20 fun e21 => some e21)).bind fun y22 =>
  (idxN (data_16).length j_7).bind fun k23 =>
  ((atO data_16 k23 fun _ => some ((data_16).set k23 y19))).bind fun z25 =>
  (idxN (z25).length (IntKind.i64.wrap (j_7 - ((1) : Int)))).bind fun k26 =>
  ((atO z25 k26 fun _ => some ((z25).set k26 y22))).bind fun z28 =>
  some (.inl ((IntKind.i64.wrap (j_7 - ((1) : Int))), z28, ())))
  | .inr r => some r) (i_5, data_6, ())).bind fun (data_29, _) =>
  some (.inl ((IntKind.i64.wrap (i_5 + ((1) : Int))), data_29, ()))) else (
  some (.inr (data_6, ()))))) ((IntKind.i64.wrap (a_2 + ((1) : Int))), data_1, ())).bind fun (data_30, _) =>
  some (data_30, ())
noncomputable def d_slices_siftDownCmpFunc_int_rcm : ((List Int) × Int × Int × Int × ((Option ((List (List Int)) × Unit)) × Unit) × Unit) → Option ((List Int) × Unit) := fun (data_1, lo_2, hi_3, first_4, cmp_5, _) =>
  (loop (σ := (Int × (List Int) × Unit)) (ρ := (((List Int) × Unit) ⊕ ((List Int) × Unit))) (fun (root_6, data_7, _) =>
  (bif (decide ((IntKind.i64.wrap ((IntKind.i64.wrap (((2) : Int) * root_6)) + ((1) : Int))) ≥ hi_3)) then (
  some (.inr (.inl (data_7, ())))) else (
  Option.bind (α := (Int × (List Int) × Unit)) (
  Option.bind (α := (Bool × (List Int) × Unit)) (
  (bif ((decide ((IntKind.i64.wrap ((IntKind.i64.wrap ((IntKind.i64.wrap (((2) : Int) * root_6)) + ((1) : Int))) + ((1) : Int))) < hi_3)) == true) then ((idxN (data_7).length (IntKind.i64.wrap (first_4 + (IntKind.i64.wrap ((IntKind.i64.wrap (((2) : Int) * root_6)) + ((1) : Int)))))).bind fun k8 =>
  ((atO data_7 k8 fun e9 => some e9)).bind fun y10 =>
  (idxN (data_7).length (IntKind.i64.wrap ((IntKind.i64.wrap (first_4 + (IntKind.i64.wrap ((IntKind.i64.wrap (((2) : Int) * root_6)) + ((1) : Int))))) + ((1) : Int)))).bind fun k11 =>
  ((atO data_7 k11 fun e12 => some e12)).bind fun y13 =>
  (d_rcm_grow_1q_q0 (y10, y13, cmp_5.1, ())).bind fun (r14, _) =>
  some ((decide (r14 < ((0) : Int))), data_7, ())) else (some (false, data_7, ())))) fun (s_15, data_16, _) =>
  (bif s_15 then (
  some ((IntKind.i64.wrap ((IntKind.i64.wrap ((IntKind.i64.wrap (((2) : Int) * root_6)) + ((1) : Int))) + ((1) : Int))), data_16, ())) else (
  some ((IntKind.i64.wrap ((IntKind.i64.wrap (((2) : Int) * root_6)) + ((1) : Int))), data_16, ())))) fun (child_17, data_18, _) =>
  (idxN (data_18).length (IntKind.i64.wrap (first_4 + root_6))).bind fun k19 =>
  ((atO data_18 k19 fun e20 => some e20)).bind fun y21 =>
  (idxN (data_18).length (IntKind.i64.wrap (first_4 + child_17))).bind fun k22 =>
  ((atO data_18 k22 fun e23 => some e23)).bind fun y24 =>
  (d_rcm_grow_1q_q0 (y21, y24, cmp_5.1, ())).bind fun (r25, _) =>
  (bif (!(decide (r25 < ((0) : Int)))) then (
  some (.inr (.inr (data_18, ())))) else (
  (idxN (data_18).length (IntKind.i64.wrap (first_4 + child_17))).bind fun k26 =>
  ((atO data_18 k26 fun e27 => some e27)).bind fun y28 =>
  (idxN (data_18).length (IntKind.i64.wrap (first_4 + root_6))).bind fun k29 =>
  ((atO data_18 k29 fun e30 => some e30)).bind fun y31 =>
  (idxN (data_18).length (IntKind.i64.wrap (first_4 + root_6))).bind fun k32 =>
  ((atO data_18 k32 fun _ => some ((data_18).set k32 y28))).bind fun z34 =>
  (idxN (z34).length (IntKind.i64.wrap (first_4 + child_17))).bind fun k35 =>
  ((atO z34 k35 fun _ => some ((z34).set k35 y31))).bind fun z37 =>
  some (.inl (child_17, z37, ()))))))) (lo_2, data_1, ())).bind fun q => match q with
  | .inl (data_38, _) => (
  some (data_38, ()))
  | .inr r => some r
noncomputable def d_slices_heapSortCmpFunc_int_rcm : ((List Int) × Int × Int × ((Option ((List (List Int)) × Unit)) × Unit) × Unit) → Option ((List Int) × Unit) := fun (data_1, a_2, b_3, cmp_4, _) =>
  (quoO IntKind.i64 (IntKind.i64.wrap ((IntKind.i64.wrap (b_3 - a_2)) - ((1) : Int))) ((2) : Int)).bind fun y5 =>
  (loop (σ := (Int × (List Int) × Unit)) (ρ := ((List Int) × Unit)) (fun (i_6, data_7, _) =>
  (bif (decide (i_6 ≥ ((0) : Int))) then (
  (d_slices_siftDownCmpFunc_int_rcm (data_7, i_6, (IntKind.i64.wrap (b_3 - a_2)), a_2, (cmp_4.1, ()), ())).bind fun (m8, _) =>
  some (.inl ((IntKind.i64.wrap (i_6 - ((1) : Int))), m8, ()))) else (
  some (.inr (data_7, ()))))) (y5, data_1, ())).bind fun (data_9, _) =>
  (loop (σ := (Int × (List Int) × Unit)) (ρ := ((List Int) × Unit)) (fun (i_10, data_11, _) =>
  (bif (decide (i_10 ≥ ((0) : Int))) then (
  (idxN (data_11).length (IntKind.i64.wrap (a_2 + i_10))).bind fun k12 =>
  ((atO data_11 k12 fun e13 => some e13)).bind fun y14 =>
  (idxN (data_11).length a_2).bind fun k15 =>
  ((atO data_11 k15 fun e16 => some e16)).bind fun y17 =>
  (idxN (data_11).length a_2).bind fun k18 =>
  ((atO data_11 k18 fun _ => some ((data_11).set k18 y14))).bind fun z20 =>
  (idxN (z20).length (IntKind.i64.wrap (a_2 + i_10))).bind fun k21 =>
  ((atO z20 k21 fun _ => some ((z20).set k21 y17))).bind fun z23 =>
  (d_slices_siftDownCmpFunc_int_rcm (z23, ((0) : Int), i_10, a_2, (cmp_4.1, ()), ())).bind fun (m24, _) =>
  some (.inl ((IntKind.i64.wrap (i_10 - ((1) : Int))), m24, ()))) else (
  some (.inr (data_11, ()))))) ((IntKind.i64.wrap ((IntKind.i64.wrap (b_3 - a_2)) - ((1) : Int))), data_9, ())).bind fun (data_25, _) =>
  some (data_25, ())
noncomputable def d_slices_breakPatternsCmpFunc_int_rcm : ((List Int) × Int × Int × ((Option ((List (List Int)) × Unit)) × Unit) × Unit) → Option ((List Int) × Unit) := fun (data_1, a_2, b_3, _, _) =>
  (bif (decide ((IntKind.i64.wrap (b_3 - a_2)) ≥ ((8) : Int))) then (
  (d_slices_nextPowerOfTwo ((IntKind.i64.wrap (b_3 - a_2)), ())).bind fun (r5, _) =>
  (quoO IntKind.i64 (IntKind.i64.wrap (b_3 - a_2)) ((4) : Int)).bind fun y6 =>
  (loop (σ := (Int × (List Int) × Int × Unit)) (ρ := ((List Int) × Unit)) (fun (idx_7, data_8, random_9, _) =>
  (quoO IntKind.i64 (IntKind.i64.wrap (b_3 - a_2)) ((4) : Int)).bind fun y10 =>
  (bif (decide (idx_7 ≤ (IntKind.i64.wrap ((IntKind.i64.wrap (a_2 + (IntKind.i64.wrap (y10 * ((2) : Int))))) + ((1) : Int))))) then (
  Option.bind (α := ((List Int) × Int × Unit)) (
  (d_slices_xorshift_Next (random_9, ())).bind fun (m11, r12, _) =>
  Option.bind (α := (Int × (List Int) × Int × Unit)) (
  (bif (decide ((IntKind.i64.wrap (andI IntKind.u64 r12 (IntKind.u64.wrap (r5 - ((1) : Int))))) ≥ (IntKind.i64.wrap (b_3 - a_2)))) then (
  some ((IntKind.i64.wrap ((IntKind.i64.wrap (andI IntKind.u64 r12 (IntKind.u64.wrap (r5 - ((1) : Int))))) - (IntKind.i64.wrap (b_3 - a_2)))), data_8, m11, ())) else (
  some ((IntKind.i64.wrap (andI IntKind.u64 r12 (IntKind.u64.wrap (r5 - ((1) : Int))))), data_8, m11, ())))) fun (other_13, data_14, random_15, _) =>
  (idxN (data_14).length (IntKind.i64.wrap (a_2 + other_13))).bind fun k16 =>
  ((atO data_14 k16 fun e17 => some e17)).bind fun y18 =>
  (idxN (data_14).length idx_7).bind fun k19 =>
  ((atO data_14 k19 fun e20 => some e20)).bind fun y21 =>
  (idxN (data_14).length idx_7).bind fun k22 =>
  ((atO data_14 k22 fun _ => some ((data_14).set k22 y18))).bind fun z24 =>
  (idxN (z24).length (IntKind.i64.wrap (a_2 + other_13))).bind fun k25 =>
  ((atO z24 k25 fun _ => some ((z24).set k25 y21))).bind fun z27 =>
  some (z27, random_15, ())) fun (data_28, random_29, _) =>
  some (.inl ((IntKind.i64.wrap (idx_7 + ((1) : Int))), data_28, random_29, ()))) else (
  some (.inr (data_8, ()))))) ((IntKind.i64.wrap ((IntKind.i64.wrap (a_2 + (IntKind.i64.wrap (y6 * ((2) : Int))))) - ((1) : Int))), data_1, (IntKind.u64.wrap (IntKind.i64.wrap (b_3 - a_2))), ())).bind fun (data_30, _) =>
  some (data_30, ())) else (
  some (data_1, ())))
noncomputable def d_slices_order2CmpFunc_int_rcm : ((List Int) × Int × Int × Int × ((Option ((List (List Int)) × Unit)) × Unit) × Unit) → Option (Int × Int × Int × Unit) := fun (data_1, a_2, b_3, swaps_4, cmp_5, _) =>
  (getI data_1 b_3).bind fun y6 =>
  (getI data_1 a_2).bind fun y7 =>
  (d_rcm_grow_1q_q0 (y6, y7, cmp_5.1, ())).bind fun (r8, _) =>
  (bif (decide (r8 < ((0) : Int))) then (
  some ((IntKind.i64.wrap (swaps_4 + ((1) : Int))), b_3, a_2, ())) else (
  some (swaps_4, a_2, b_3, ())))
noncomputable def d_slices_medianCmpFunc_int_rcm : ((List Int) × Int × Int × Int × Int × ((Option ((List (List Int)) × Unit)) × Unit) × Unit) → Option (Int × Int × Unit) := fun (data_1, a_2, b_3, c_4, swaps_5, cmp_6, _) =>
  (d_slices_order2CmpFunc_int_rcm (data_1, a_2, b_3, swaps_5, (cmp_6.1, ()), ())).bind fun (m7, r8, r9, _) =>
  (d_slices_order2CmpFunc_int_rcm (data_1, r9, c_4, m7, (cmp_6.1, ()), ())).bind fun (m10, r11, _, _) =>
  (d_slices_order2CmpFunc_int_rcm (data_1, r8, r11, m10, (cmp_6.1, ()), ())).bind fun (m13, _, r15, _) =>
  some (m13, r15, ())
noncomputable def d_slices_medianAdjacentCmpFunc_int_rcm : ((List Int) × Int × Int × ((Option ((List (List Int)) × Unit)) × Unit) × Unit) → Option (Int × Int × Unit) := fun (data_1, a_2, swaps_3, cmp_4, _) =>
  (d_slices_medianCmpFunc_int_rcm (data_1, (IntKind.i64.wrap (a_2 - ((1) : Int))), a_2, (IntKind.i64.wrap (a_2 + ((1) : Int))), swaps_3, (cmp_4.1, ()), ())).bind fun (m5, r6, _) =>
  some (m5, r6, ())
noncomputable def d_slices_choosePivotCmpFunc_int_rcm : ((List Int) × Int × Int × ((Option ((List (List Int)) × Unit)) × Unit) × Unit) → Option (Int × Int × Unit) := fun (data_1, a_2, b_3, cmp_4, _) =>
  (quoO IntKind.i64 (IntKind.i64.wrap (b_3 - a_2)) ((4) : Int)).bind fun y5 =>
  (quoO IntKind.i64 (IntKind.i64.wrap (b_3 - a_2)) ((4) : Int)).bind fun y6 =>
  (quoO IntKind.i64 (IntKind.i64.wrap (b_3 - a_2)) ((4) : Int)).bind fun y7 =>
  Option.bind (α := (Int × Int × Unit)) (
  (bif (decide ((IntKind.i64.wrap (b_3 - a_2)) ≥ ((8) : Int))) then (
  Option.bind (α := (Int × Int × Int × Int × Unit)) (
  (bif (decide ((IntKind.i64.wrap (b_3 - a_2)) ≥ ((50) : Int))) then (
  (d_slices_medianAdjacentCmpFunc_int_rcm (data_1, (IntKind.i64.wrap (a_2 + (IntKind.i64.wrap (y5 * ((1) : Int))))), (0 : Int), (cmp_4.1, ()), ())).bind fun (m8, r9, _) =>
  (d_slices_medianAdjacentCmpFunc_int_rcm (data_1, (IntKind.i64.wrap (a_2 + (IntKind.i64.wrap (y6 * ((2) : Int))))), m8, (cmp_4.1, ()), ())).bind fun (m10, r11, _) =>
  (d_slices_medianAdjacentCmpFunc_int_rcm (data_1, (IntKind.i64.wrap (a_2 + (IntKind.i64.wrap (y7 * ((3) : Int))))), m10, (cmp_4.1, ()), ())).bind fun (m12, r13, _) =>
  some (r9, r11, r13, m12, ())) else (
  some ((IntKind.i64.wrap (a_2 + (IntKind.i64.wrap (y5 * ((1) : Int))))), (IntKind.i64.wrap (a_2 + (IntKind.i64.wrap (y6 * ((2) : Int))))), (IntKind.i64.wrap (a_2 + (IntKind.i64.wrap (y7 * ((3) : Int))))), (0 : Int), ())))) fun (i_14, j_15, k_16, swaps_17, _) =>
  (d_slices_medianCmpFunc_int_rcm (data_1, i_14, j_15, k_16, swaps_17, (cmp_4.1, ()), ())).bind fun (m18, r19, _) =>
  some (r19, m18, ())) else (
  some ((IntKind.i64.wrap (a_2 + (IntKind.i64.wrap (y6 * ((2) : Int))))), (0 : Int), ())))) fun (j_20, swaps_21, _) =>
  (bif (swaps_21 == ((0) : Int)) then (
  some (j_20, ((1) : Int), ())) else (
  (bif (swaps_21 == ((12) : Int)) then (
  some (j_20, ((2) : Int), ())) else (
  some (j_20, ((0) : Int), ())))))
noncomputable def d_slices_reverseRangeCmpFunc_int_rcm : ((List Int) × Int × Int × ((Option ((List (List Int)) × Unit)) × Unit) × Unit) → Option ((List Int) × Unit) := fun (data_1, a_2, b_3, _, _) =>
  (loop (σ := (Int × Int × (List Int) × Unit)) (ρ := ((List Int) × Unit)) (fun (i_5, j_6, data_7, _) =>
  (bif (decide (i_5 < j_6)) then (
  (idxN (data_7).length j_6).bind fun k8 =>
  ((atO data_7 k8 fun e9 => some e9)).bind fun y10 =>
  (idxN (data_7).length i_5).bind fun k11 =>
  ((atO data_7 k11 fun e12 => some e12)).bind fun y13 =>
  (idxN (data_7).length i_5).bind fun k14 =>
  ((atO data_7 k14 fun _ => some ((data_7).set k14 y10))).bind fun z16 =>
  (idxN (z16).length j_6).bind fun k17 =>
  ((atO z16 k17 fun _ => some ((z16).set k17 y13))).bind fun z19 =>
  some (.inl ((IntKind.i64.wrap (i_5 + ((1) : Int))), (IntKind.i64.wrap (j_6 - ((1) : Int))), z19, ()))) else (
  some (.inr (data_7, ()))))) (a_2, (IntKind.i64.wrap (b_3 - ((1) : Int))), data_1, ())).bind fun (data_20, _) =>
  some (data_20, ())
noncomputable def d_slices_partialInsertionSortCmpFunc_int_rcm : ((List Int) × Int × Int × ((Option ((List (List Int)) × Unit)) × Unit) × Unit) → Option ((List Int) × Bool × Unit) := fun (data_1, a_2, b_3, cmp_4, _) =>
  (loop (σ := (Int × Int × (List Int) × Unit)) (ρ := (((List Int) × Unit) ⊕ ((List Int) × Bool × Unit))) (fun (i_5, j_6, data_7, _) =>
  (bif (decide (j_6 < ((5) : Int))) then (
  Option.bind (α := (Int × (List Int) × Unit) ⊕ ((Int × Int × (List Int) × Unit) ⊕ (((List Int) × Unit) ⊕ ((List Int) × Bool × Unit)))) (
  (loop (σ := (Int × (List Int) × Unit)) (ρ := (Int × (List Int) × Unit)) (fun (i_8, data_9, _) =>
  Option.bind (α := ((List Int) × Unit) ⊕ ((Int × (List Int) × Unit) ⊕ (Int × (List Int) × Unit))) (
  (bif ((decide (i_8 < b_3)) == true) then ((idxN (data_9).length i_8).bind fun k10 =>
  ((atO data_9 k10 fun e11 => some e11)).bind fun y12 =>
  (idxN (data_9).length (IntKind.i64.wrap (i_8 - ((1) : Int)))).bind fun k13 =>
  ((atO data_9 k13 fun e14 => some e14)).bind fun y15 =>
  (d_rcm_grow_1q_q0 (y12, y15, cmp_4.1, ())).bind fun (r16, _) =>
  (bif (!(decide (r16 < ((0) : Int)))) then (
  some (.inl (data_9, ()))) else (
  some (.inr (.inr (i_8, data_9, ())))))) else (some (.inr (.inr (i_8, data_9, ())))))) fun q => match q with
  | .inl (data_17, _) => (
  some (.inl ((IntKind.i64.wrap (i_8 + ((1) : Int))), data_17, ())))
  | .inr r => some r) (i_5, data_7, ())).bind fun (i_18, data_19, _) =>
  (bif (i_18 == b_3) then (
  some (.inr (.inr (.inr (data_19, true, ()))))) else (
  (bif (decide ((IntKind.i64.wrap (b_3 - a_2)) < ((50) : Int))) then (
  some (.inr (.inr (.inr (data_19, false, ()))))) else (
  (idxN (data_19).length (IntKind.i64.wrap (i_18 - ((1) : Int)))).bind fun k20 =>
  ((atO data_19 k20 fun e21 => some e21)).bind fun y22 =>
  (idxN (data_19).length i_18).bind fun k23 =>
  ((atO data_19 k23 fun e24 => some e24)).bind fun y25 =>
  (idxN (data_19).length i_18).bind fun k26 =>
  ((atO data_19 k26 fun _ => some ((data_19).set k26 y22))).bind fun z28 =>
  (idxN (z28).length (IntKind.i64.wrap (i_18 - ((1) : Int)))).bind fun k29 =>
  ((atO z28 k29 fun _ => some ((z28).set k29 y25))).bind fun z31 =>
  Option.bind (α := ((List Int) × Unit)) (
  (bif (decide ((IntKind.i64.wrap (i_18 - a_2)) ≥ ((2) : Int))) then (
  (loop (σ := (Int × (List Int) × Unit)) (ρ := ((List Int) × Unit)) (fun (j_32, data_33, _) =>
  (bif (decide (j_32 ≥ ((1) : Int))) then (
  (idxN (data_33).length j_32).bind fun k34 =>
  ((atO data_33 k34 fun e35 => some e35)).bind fun y36 =>
  (idxN (data_33).length (IntKind.i64.wrap (j_32 - ((1) : Int)))).bind fun k37 =>
  ((atO data_33 k37 fun e38 => some e38)).bind fun y39 =>
  (d_rcm_grow_1q_q0 (y36, y39, cmp_4.1, ())).bind fun (r40, _) =>
  (bif (!(decide (r40 < ((0) : Int)))) then (
  some (.inr (data_33, ()))) else (
  (idxN (data_33).length (IntKind.i64.wrap (j_32 - ((1) : Int)))).bind fun k41 =>
  ((atO data_33 k41 fun e42 => some e42)).bind fun y43 =>
  (idxN (data_33).length j_32).bind fun k44 =>
  ((atO data_33 k44 fun e45 => some e45)).bind fun y46 =>
  (idxN (data_33).length j_32).bind fun k47 =>
  ((atO data_33 k47 fun _ => some ((data_33).set k47 y43))).bind fun z49 =>
  (idxN (z49).length (IntKind.i64.wrap (j_32 - ((1) : Int)))).bind fun k50 =>
  ((atO z49 k50 fun _ => some ((z49).set k50 y46))).bind fun z52 =>
  some (.inl ((IntKind.i64.wrap (j_32 - ((1) : Int))), z52, ()))))) else (
  some (.inr (data_33, ()))))) ((IntKind.i64.wrap (i_18 - ((1) : Int))), z31, ())).bind fun (data_53, _) =>
  some (data_53, ())) else (
  some (z31, ())))) fun (data_54, _) =>
  (bif (decide ((IntKind.i64.wrap (b_3 - i_18)) ≥ ((2) : Int))) then (
  (loop (σ := (Int × (List Int) × Unit)) (ρ := ((List Int) × Unit)) (fun (j_55, data_56, _) =>
  (bif (decide (j_55 < b_3)) then (
  (idxN (data_56).length j_55).bind fun k57 =>
  ((atO data_56 k57 fun e58 => some e58)).bind fun y59 =>
  (idxN (data_56).length (IntKind.i64.wrap (j_55 - ((1) : Int)))).bind fun k60 =>
  ((atO data_56 k60 fun e61 => some e61)).bind fun y62 =>
  (d_rcm_grow_1q_q0 (y59, y62, cmp_4.1, ())).bind fun (r63, _) =>
  (bif (!(decide (r63 < ((0) : Int)))) then (
  some (.inr (data_56, ()))) else (
  (idxN (data_56).length (IntKind.i64.wrap (j_55 - ((1) : Int)))).bind fun k64 =>
  ((atO data_56 k64 fun e65 => some e65)).bind fun y66 =>
  (idxN (data_56).length j_55).bind fun k67 =>
  ((atO data_56 k67 fun e68 => some e68)).bind fun y69 =>
  (idxN (data_56).length j_55).bind fun k70 =>
  ((atO data_56 k70 fun _ => some ((data_56).set k70 y66))).bind fun z72 =>
  (idxN (z72).length (IntKind.i64.wrap (j_55 - ((1) : Int)))).bind fun k73 =>
  ((atO z72 k73 fun _ => some ((z72).set k73 y69))).bind fun z75 =>
  some (.inl ((IntKind.i64.wrap (j_55 + ((1) : Int))), z75, ()))))) else (
  some (.inr (data_56, ()))))) ((IntKind.i64.wrap (i_18 + ((1) : Int))), data_54, ())).bind fun (data_76, _) =>
  some (.inl (i_18, data_76, ()))) else (
  some (.inl (i_18, data_54, ()))))))))) fun q => match q with
  | .inl (i_77, data_78, _) => (
  some (.inl (i_77, (IntKind.i64.wrap (j_6 + ((1) : Int))), data_78, ())))
  | .inr r => some r) else (
  some (.inr (.inl (data_7, ())))))) ((IntKind.i64.wrap (a_2 + ((1) : Int))), ((0) : Int), data_1, ())).bind fun q => match q with
  | .inl (data_79, _) => (
  some (data_79, false, ()))
  | .inr r => some r
noncomputable def d_slices_partitionEqualCmpFunc_int_rcm : ((List Int) × Int × Int × Int × ((Option ((List (List Int)) × Unit)) × Unit) × Unit) → Option ((List Int) × Int × Unit) := fun (data_1, a_2, b_3, pivot_4, cmp_5, _) =>
  (idxN (data_1).length pivot_4).bind fun k6 =>
  ((atO data_1 k6 fun e7 => some e7)).bind fun y8 =>
  (idxN (data_1).length a_2).bind fun k9 =>
  ((atO data_1 k9 fun e10 => some e10)).bind fun y11 =>
  (idxN (data_1).length a_2).bind fun k12 =>
  ((atO data_1 k12 fun _ => some ((data_1).set k12 y8))).bind fun z14 =>
  (idxN (z14).length pivot_4).bind fun k15 =>
  ((atO z14 k15 fun _ => some ((z14).set k15 y11))).bind fun z17 =>
  (loop (σ := (Int × Int × (List Int) × Unit)) (ρ := (Int × (List Int) × Unit)) (fun (i_18, j_19, data_20, _) =>
  (loop (σ := (Int × (List Int) × Unit)) (ρ := (Int × (List Int) × Unit)) (fun (i_21, data_22, _) =>
  Option.bind (α := ((List Int) × Unit) ⊕ ((Int × (List Int) × Unit) ⊕ (Int × (List Int) × Unit))) (
  (bif ((decide (i_21 ≤ j_19)) == true) then ((idxN (data_22).length a_2).bind fun k23 =>
  ((atO data_22 k23 fun e24 => some e24)).bind fun y25 =>
  (idxN (data_22).length i_21).bind fun k26 =>
  ((atO data_22 k26 fun e27 => some e27)).bind fun y28 =>
  (d_rcm_grow_1q_q0 (y25, y28, cmp_5.1, ())).bind fun (r29, _) =>
  (bif (!(decide (r29 < ((0) : Int)))) then (
  some (.inl (data_22, ()))) else (
  some (.inr (.inr (i_21, data_22, ())))))) else (some (.inr (.inr (i_21, data_22, ())))))) fun q => match q with
  | .inl (data_30, _) => (
  some (.inl ((IntKind.i64.wrap (i_21 + ((1) : Int))), data_30, ())))
  | .inr r => some r) (i_18, data_20, ())).bind fun (i_31, data_32, _) =>
  (loop (σ := (Int × (List Int) × Unit)) (ρ := (Int × (List Int) × Unit)) (fun (j_33, data_34, _) =>
  Option.bind (α := ((List Int) × Unit) ⊕ ((Int × (List Int) × Unit) ⊕ (Int × (List Int) × Unit))) (
  (bif ((decide (i_31 ≤ j_33)) == true) then ((idxN (data_34).length a_2).bind fun k35 =>
  ((atO data_34 k35 fun e36 => some e36)).bind fun y37 =>
  (idxN (data_34).length j_33).bind fun k38 =>
  ((atO data_34 k38 fun e39 => some e39)).bind fun y40 =>
  (d_rcm_grow_1q_q0 (y37, y40, cmp_5.1, ())).bind fun (r41, _) =>
  (bif (decide (r41 < ((0) : Int))) then (
  some (.inl (data_34, ()))) else (
  some (.inr (.inr (j_33, data_34, ())))))) else (some (.inr (.inr (j_33, data_34, ())))))) fun q => match q with
  | .inl (data_42, _) => (
  some (.inl ((IntKind.i64.wrap (j_33 - ((1) : Int))), data_42, ())))
  | .inr r => some r) (j_19, data_32, ())).bind fun (j_43, data_44, _) =>
  (bif (decide (i_31 > j_43)) then (
  some (.inr (i_31, data_44, ()))) else (
  (idxN (data_44).length j_43).bind fun k45 =>
  ((atO data_44 k45 fun e46 => some e46)).bind fun y47 =>
  (idxN (data_44).length i_31).bind fun k48 =>
  ((atO data_44 k48 fun e49 => some e49)).bind fun y50 =>
  (idxN (data_44).length i_31).bind fun k51 =>
  ((atO data_44 k51 fun _ => some ((data_44).set k51 y47))).bind fun z53 =>
  (idxN (z53).length j_43).bind fun k54 =>
  ((atO z53 k54 fun _ => some ((z53).set k54 y50))).bind fun z56 =>
  some (.inl ((IntKind.i64.wrap (i_31 + ((1) : Int))), (IntKind.i64.wrap (j_43 - ((1) : Int))), z56, ()))))) ((IntKind.i64.wrap (a_2 + ((1) : Int))), (IntKind.i64.wrap (b_3 - ((1) : Int))), z17, ())).bind fun (i_57, data_58, _) =>
  some (data_58, i_57, ())
noncomputable def d_slices_partitionCmpFunc_int_rcm : ((List Int) × Int × Int × Int × ((Option ((List (List Int)) × Unit)) × Unit) × Unit) → Option ((List Int) × Int × Bool × Unit) := fun (data_1, a_2, b_3, pivot_4, cmp_5, _) =>
  (idxN (data_1).length pivot_4).bind fun k6 =>
  ((atO data_1 k6 fun e7 => some e7)).bind fun y8 =>
  (idxN (data_1).length a_2).bind fun k9 =>
  ((atO data_1 k9 fun e10 => some e10)).bind fun y11 =>
  (idxN (data_1).length a_2).bind fun k12 =>
  ((atO data_1 k12 fun _ => some ((data_1).set k12 y8))).bind fun z14 =>
  (idxN (z14).length pivot_4).bind fun k15 =>
  ((atO z14 k15 fun _ => some ((z14).set k15 y11))).bind fun z17 =>
  (loop (σ := (Int × (List Int) × Unit)) (ρ := (Int × (List Int) × Unit)) (fun (i_18, data_19, _) =>
  Option.bind (α := ((List Int) × Unit) ⊕ ((Int × (List Int) × Unit) ⊕ (Int × (List Int) × Unit))) (
  (bif ((decide (i_18 ≤ (IntKind.i64.wrap (b_3 - ((1) : Int))))) == true) then ((idxN (data_19).length i_18).bind fun k20 =>
  ((atO data_19 k20 fun e21 => some e21)).bind fun y22 =>
  (idxN (data_19).length a_2).bind fun k23 =>
  ((atO data_19 k23 fun e24 => some e24)).bind fun y25 =>
  (d_rcm_grow_1q_q0 (y22, y25, cmp_5.1, ())).bind fun (r26, _) =>
  (bif (decide (r26 < ((0) : Int))) then (
  some (.inl (data_19, ()))) else (
  some (.inr (.inr (i_18, data_19, ())))))) else (some (.inr (.inr (i_18, data_19, ())))))) fun q => match q with
  | .inl (data_27, _) => (
  some (.inl ((IntKind.i64.wrap (i_18 + ((1) : Int))), data_27, ())))
  | .inr r => some r) ((IntKind.i64.wrap (a_2 + ((1) : Int))), z17, ())).bind fun (i_28, data_29, _) =>
  (loop (σ := (Int × (List Int) × Unit)) (ρ := (Int × (List Int) × Unit)) (fun (j_30, data_31, _) =>
  Option.bind (α := ((List Int) × Unit) ⊕ ((Int × (List Int) × Unit) ⊕ (Int × (List Int) × Unit))) (
  (bif ((decide (i_28 ≤ j_30)) == true) then ((idxN (data_31).length j_30).bind fun k32 =>
  ((atO data_31 k32 fun e33 => some e33)).bind fun y34 =>
  (idxN (data_31).length a_2).bind fun k35 =>
  ((atO data_31 k35 fun e36 => some e36)).bind fun y37 =>
  (d_rcm_grow_1q_q0 (y34, y37, cmp_5.1, ())).bind fun (r38, _) =>
  (bif (!(decide (r38 < ((0) : Int)))) then (
  some (.inl (data_31, ()))) else (
  some (.inr (.inr (j_30, data_31, ())))))) else (some (.inr (.inr (j_30, data_31, ())))))) fun q => match q with
  | .inl (data_39, _) => (
  some (.inl ((IntKind.i64.wrap (j_30 - ((1) : Int))), data_39, ())))
  | .inr r => some r) ((IntKind.i64.wrap (b_3 - ((1) : Int))), data_29, ())).bind fun (j_40, data_41, _) =>
  (bif (decide (i_28 > j_40)) then (
  (idxN (data_41).length a_2).bind fun k42 =>
  ((atO data_41 k42 fun e43 => some e43)).bind fun y44 =>
  (idxN (data_41).length j_40).bind fun k45 =>
  ((atO data_41 k45 fun e46 => some e46)).bind fun y47 =>
  (idxN (data_41).length j_40).bind fun k48 =>
  ((atO data_41 k48 fun _ => some ((data_41).set k48 y44))).bind fun z50 =>
  (idxN (z50).length a_2).bind fun k51 =>
  ((atO z50 k51 fun _ => some ((z50).set k51 y47))).bind fun z53 =>
  some (z53, j_40, true, ())) else (
  (idxN (data_41).length j_40).bind fun k54 =>
  ((atO data_41 k54 fun e55 => some e55)).bind fun y56 =>
  (idxN (data_41).length i_28).bind fun k57 =>
  ((atO data_41 k57 fun e58 => some e58)).bind fun y59 =>
  (idxN (data_41).length i_28).bind fun k60 =>
  ((atO data_41 k60 fun _ => some ((data_41).set k60 y56))).bind fun z62 =>
  (idxN (z62).length j_40).bind fun k63 =>
  ((atO z62 k63 fun _ => some ((z62).set k63 y59))).bind fun z65 =>
  (loop (σ := (Int × Int × (List Int) × Unit)) (ρ := (Int × (List Int) × Unit)) (fun (i_66, j_67, data_68, _) =>
  (loop (σ := (Int × (List Int) × Unit)) (ρ := (Int × (List Int) × Unit)) (fun (i_69, data_70, _) =>
  Option.bind (α := ((List Int) × Unit) ⊕ ((Int × (List Int) × Unit) ⊕ (Int × (List Int) × Unit))) (
  (bif ((decide (i_69 ≤ j_67)) == true) then ((idxN (data_70).length i_69).bind fun k71 =>
  ((atO data_70 k71 fun e72 => some e72)).bind fun y73 =>
  (idxN (data_70).length a_2).bind fun k74 =>
  ((atO data_70 k74 fun e75 => some e75)).bind fun y76 =>
  (d_rcm_grow_1q_q0 (y73, y76, cmp_5.1, ())).bind fun (r77, _) =>
  (bif (decide (r77 < ((0) : Int))) then (
  some (.inl (data_70, ()))) else (
  some (.inr (.inr (i_69, data_70, ())))))) else (some (.inr (.inr (i_69, data_70, ())))))) fun q => match q with
  | .inl (data_78, _) => (
  some (.inl ((IntKind.i64.wrap (i_69 + ((1) : Int))), data_78, ())))
  | .inr r => some r) (i_66, data_68, ())).bind fun (i_79, data_80, _) =>
  (loop (σ := (Int × (List Int) × Unit)) (ρ := (Int × (List Int) × Unit)) (fun (j_81, data_82, _) =>
  Option.bind (α := ((List Int) × Unit) ⊕ ((Int × (List Int) × Unit) ⊕ (Int × (List Int) × Unit))) (
  (bif ((decide (i_79 ≤ j_81)) == true) then ((idxN (data_82).length j_81).bind fun k83 =>
  ((atO data_82 k83 fun e84 => some e84)).bind fun y85 =>
  (idxN (data_82).length a_2).bind fun k86 =>
  ((atO data_82 k86 fun e87 => some e87)).bind fun y88 =>
  (d_rcm_grow_1q_q0 (y85, y88, cmp_5.1, ())).bind fun (r89, _) =>
  (bif (!(decide (r89 < ((0) : Int)))) then (
  some (.inl (data_82, ()))) else (
  some (.inr (.inr (j_81, data_82, ())))))) else (some (.inr (.inr (j_81, data_82, ())))))) fun q => match q with
  | .inl (data_90, _) => (
  some (.inl ((IntKind.i64.wrap (j_81 - ((1) : Int))), data_90, ())))
  | .inr r => some r) (j_67, data_80, ())).bind fun (j_91, data_92, _) =>
  (bif (decide (i_79 > j_91)) then (
  some (.inr (j_91, data_92, ()))) else (
  (idxN (data_92).length j_91).bind fun k93 =>
  ((atO data_92 k93 fun e94 => some e94)).bind fun y95 =>
  (idxN (data_92).length i_79).bind fun k96 =>
  ((atO data_92 k96 fun e97 => some e97)).bind fun y98 =>
  (idxN (data_92).length i_79).bind fun k99 =>
  ((atO data_92 k99 fun _ => some ((data_92).set k99 y95))).bind fun z101 =>
  (idxN (z101).length j_91).bind fun k102 =>
  ((atO z101 k102 fun _ => some ((z101).set k102 y98))).bind fun z104 =>
  some (.inl ((IntKind.i64.wrap (i_79 + ((1) : Int))), (IntKind.i64.wrap (j_91 - ((1) : Int))), z104, ()))))) ((IntKind.i64.wrap (i_28 + ((1) : Int))), (IntKind.i64.wrap (j_40 - ((1) : Int))), z65, ())).bind fun (j_105, data_106, _) =>
  (idxN (data_106).length a_2).bind fun k107 =>
  ((atO data_106 k107 fun e108 => some e108)).bind fun y109 =>
  (idxN (data_106).length j_105).bind fun k110 =>
  ((atO data_106 k110 fun e111 => some e111)).bind fun y112 =>
  (idxN (data_106).length j_105).bind fun k113 =>
  ((atO data_106 k113 fun _ => some ((data_106).set k113 y109))).bind fun z115 =>
  (idxN (z115).length a_2).bind fun k116 =>
  ((atO z115 k116 fun _ => some ((z115).set k116 y112))).bind fun z118 =>
  some (z118, j_105, false, ())))
noncomputable def r_slices_pdqsortCmpFunc_int_rcmq_s (f_ : ((List Int) × Int × Int × Int × ((Option ((List (List Int)) × Unit)) × Unit) × Unit) → Option ((List Int) × Unit)) : ((List Int) × Int × Int × Int × ((Option ((List (List Int)) × Unit)) × Unit) × Unit) → Option ((List Int) × Unit) := fun (data_1, a_2, b_3, limit_4, cmp_5, _) =>
  (loop (σ := (Int × Int × Int × Bool × Bool × (List Int) × Unit)) (ρ := ((List Int) × Unit)) (fun (a_6, b_7, limit_8, wasBalanced_9, wasPartitioned_10, data_11, _) =>
  (bif (decide ((IntKind.i64.wrap (b_7 - a_6)) ≤ ((12) : Int))) then (
  (d_slices_insertionSortCmpFunc_int_rcm (data_11, a_6, b_7, (cmp_5.1, ()), ())).bind fun (m12, _) =>
  some (.inr (m12, ()))) else (
  (bif (limit_8 == ((0) : Int)) then (
  (d_slices_heapSortCmpFunc_int_rcm (data_11, a_6, b_7, (cmp_5.1, ()), ())).bind fun (m13, _) =>
  some (.inr (m13, ()))) else (
  Option.bind (α := (Int × (List Int) × Unit)) (
  (bif (!wasBalanced_9) then (
  (d_slices_breakPatternsCmpFunc_int_rcm (data_11, a_6, b_7, (cmp_5.1, ()), ())).bind fun (m14, _) =>
  some ((IntKind.i64.wrap (limit_8 - ((1) : Int))), m14, ())) else (
  some (limit_8, data_11, ())))) fun (limit_15, data_16, _) =>
  (d_slices_choosePivotCmpFunc_int_rcm (data_16, a_6, b_7, (cmp_5.1, ()), ())).bind fun (r17, r18, _) =>
  Option.bind (α := (Int × Int × (List Int) × Unit)) (
  (bif (r18 == ((2) : Int)) then (
  (d_slices_reverseRangeCmpFunc_int_rcm (data_16, a_6, b_7, (cmp_5.1, ()), ())).bind fun (m19, _) =>
  some ((IntKind.i64.wrap ((IntKind.i64.wrap (b_7 - ((1) : Int))) - (IntKind.i64.wrap (r17 - a_6)))), ((1) : Int), m19, ())) else (
  some (r17, r18, data_16, ())))) fun (pivot_20, hint_21, data_22, _) =>
  Option.bind (α := ((List Int) × Unit) ⊕ ((Int × Int × Int × Bool × Bool × (List Int) × Unit) ⊕ ((List Int) × Unit))) (
  Option.bind (α := (Bool × (List Int) × Unit)) (
  (bif (wasBalanced_9 == true) then ((bif (wasPartitioned_10 == true) then (some ((hint_21 == ((1) : Int)), data_22, ())) else (some (false, data_22, ())))) else (some (false, data_22, ())))) fun (s_23, data_24, _) =>
  (bif s_23 then (
  (d_slices_partialInsertionSortCmpFunc_int_rcm (data_24, a_6, b_7, (cmp_5.1, ()), ())).bind fun (m25, r26, _) =>
  (bif r26 then (
  some (.inr (.inr (m25, ())))) else (
  some (.inl (m25, ()))))) else (
  some (.inl (data_24, ()))))) fun q => match q with
  | .inl (data_27, _) => (
  Option.bind (α := (Int × (List Int) × Unit) ⊕ ((Int × Int × Int × Bool × Bool × (List Int) × Unit) ⊕ ((List Int) × Unit))) (
  Option.bind (α := (Bool × (List Int) × Unit)) (
  (bif ((decide (a_6 > ((0) : Int))) == true) then ((idxN (data_27).length (IntKind.i64.wrap (a_6 - ((1) : Int)))).bind fun k28 =>
  ((atO data_27 k28 fun e29 => some e29)).bind fun y30 =>
  (idxN (data_27).length pivot_20).bind fun k31 =>
  ((atO data_27 k31 fun e32 => some e32)).bind fun y33 =>
  (d_rcm_grow_1q_q0 (y30, y33, cmp_5.1, ())).bind fun (r34, _) =>
  some ((!(decide (r34 < ((0) : Int)))), data_27, ())) else (some (false, data_27, ())))) fun (s_35, data_36, _) =>
  (bif s_35 then (
  (d_slices_partitionEqualCmpFunc_int_rcm (data_36, a_6, b_7, pivot_20, (cmp_5.1, ()), ())).bind fun (m37, r38, _) =>
  some (.inr (.inl (r38, b_7, limit_15, wasBalanced_9, wasPartitioned_10, m37, ())))) else (
  some (.inl (a_6, data_36, ()))))) fun q => match q with
  | .inl (a_39, data_40, _) => (
  (d_slices_partitionCmpFunc_int_rcm (data_40, a_39, b_7, pivot_20, (cmp_5.1, ()), ())).bind fun (m41, r42, r43, _) =>
  (quoO IntKind.i64 (IntKind.i64.wrap (b_7 - a_6)) ((8) : Int)).bind fun y44 =>
  (bif (decide ((IntKind.i64.wrap (r42 - a_39)) < (IntKind.i64.wrap (b_7 - r42)))) then (
  (f_ (m41, a_39, r42, limit_15, (cmp_5.1, ()), ())).bind fun (m45, _) =>
  some (.inl ((IntKind.i64.wrap (r42 + ((1) : Int))), b_7, limit_15, (decide ((IntKind.i64.wrap (r42 - a_39)) ≥ y44)), r43, m45, ()))) else (
  (f_ (m41, (IntKind.i64.wrap (r42 + ((1) : Int))), b_7, limit_15, (cmp_5.1, ()), ())).bind fun (m46, _) =>
  some (.inl (a_39, r42, limit_15, (decide ((IntKind.i64.wrap (b_7 - r42)) ≥ y44)), r43, m46, ())))))
  | .inr r => some r)
  | .inr r => some r))))) (a_2, b_3, limit_4, true, true, data_1, ())).bind some
noncomputable def r_slices_pdqsortCmpFunc_int_rcm : Nat → ((List Int) × Int × Int × Int × ((Option ((List (List Int)) × Unit)) × Unit) × Unit) → Option ((List Int) × Unit) := deep r_slices_pdqsortCmpFunc_int_rcmq_s
set_option maxHeartbeats 4000000 in
theorem r_slices_pdqsortCmpFunc_int_rcmq_mono (f_ fb_ : ((List Int) × Int × Int × Int × ((Option ((List (List Int)) × Unit)) × Unit) × Unit) → Option ((List Int) × Unit)) (h_ : ∀ a, Le (f_ a) (fb_ a)) (a : ((List Int) × Int × Int × Int × ((Option ((List (List Int)) × Unit)) × Unit) × Unit)) : Le (r_slices_pdqsortCmpFunc_int_rcmq_s f_ a) (r_slices_pdqsortCmpFunc_int_rcmq_s fb_ a) := by
  unfold r_slices_pdqsortCmpFunc_int_rcmq_s
  repeat' (first | with_reducible exact Le.refl _ | with_reducible exact h_ _ | (with_reducible refine Le.bind ?_ (fun y => ?_)) | (with_reducible refine Le.bif ?_ ?_) | (with_reducible refine Le.loop2 (fun s => ?_) _) | (with_reducible refine Le.atO (fun e => ?_)) | split)
noncomputable def d_slices_pdqsortCmpFunc_int_rcm : ((List Int) × Int × Int × Int × ((Option ((List (List Int)) × Unit)) × Unit) × Unit) → Option ((List Int) × Unit) := fixO r_slices_pdqsortCmpFunc_int_rcm
noncomputable def d_slices_SortFunc_int_int_rcm : ((List Int) × ((Option ((List (List Int)) × Unit)) × Unit) × Unit) → Option ((List Int) × Unit) := fun (x_1, cmp_2, _) =>
  (d_math_bits_Len ((IntKind.u64.wrap (((x_1).length : Nat) : Int)), ())).bind fun (r3, _) =>
  (d_slices_pdqsortCmpFunc_int_rcm (x_1, ((0) : Int), (((x_1).length : Nat) : Int), r3, (cmp_2.1, ()), ())).bind fun (m4, _) =>
  some (m4, ())
noncomputable def d_rcm_grow : (((List (List Int)) × Unit) × Int × (List Int) × (List Bool) × Unit) → Option ((List Bool) × (List Int) × Unit) := fun (g_1, start_2, order_3, placed_4, _) =>
  (limO ((order_3).length + ([start_2]).length)).bind fun _ =>
  (idxN (placed_4).length start_2).bind fun k15 =>
  ((atO placed_4 k15 fun _ => some ((placed_4).set k15 true))).bind fun z17 =>
  (loop (σ := (Int × (List Int) × (List Bool) × Unit)) (ρ := ((List Int) × (List Bool) × Unit)) (fun (at_18, order_19, placed_20, _) =>
  (bif (decide (at_18 < (((order_19).length : Nat) : Int))) then (
  (idxN (order_19).length at_18).bind fun k21 =>
  ((atO order_19 k21 fun e22 => some e22)).bind fun y23 =>
  (getI g_1.1 y23).bind fun y24 =>
  (loop (σ := (Int × (List Int) × (List Bool) × (List Int) × Unit)) (ρ := ((List Int) × (List Bool) × (List Int) × Unit)) (fun (s_25, order_26, placed_27, next_28, _) =>
  (bif (decide (s_25 < (((y24).length : Nat) : Int))) then (
  Option.bind (α := ((List Int) × (List Bool) × (List Int) × Unit)) (
  (getI y24 s_25).bind fun y29 =>
  (idxN (placed_27).length y29).bind fun k30 =>
  ((atO placed_27 k30 fun e31 => some e31)).bind fun y32 =>
  (bif (!y32) then (
  (idxN (placed_27).length y29).bind fun k33 =>
  ((atO placed_27 k33 fun _ => some ((placed_27).set k33 true))).bind fun z35 =>
  (limO ((next_28).length + ([y29]).length)).bind fun _ =>
  some (order_26, z35, (next_28 ++ [y29]), ())) else (
  some (order_26, placed_27, next_28, ())))) fun (order_36, placed_37, next_38, _) =>
  some (.inl ((IntKind.i64.wrap (s_25 + ((1) : Int))), order_36, placed_37, next_38, ()))) else (
  some (.inr (order_26, placed_27, next_28, ()))))) (((0) : Int), order_19, placed_20, [], ())).bind fun (order_39, placed_40, next_41, _) =>
  (d_slices_SortFunc_int_int_rcm (next_41, ((some g_1), ()), ())).bind fun (m42, _) =>
  (limO ((order_39).length + (m42).length)).bind fun _ =>
  some (.inl ((IntKind.i64.wrap (at_18 + ((1) : Int))), (order_39 ++ m42), placed_40, ()))) else (
  some (.inr (order_19, placed_20, ()))))) ((((order_3).length : Nat) : Int), (order_3 ++ [start_2]), z17, ())).bind fun (order_43, placed_44, _) =>
  some (placed_44, order_43, ())
noncomputable def d_slices_Reverse_int_int : ((List Int) × Unit) → Option ((List Int) × Unit) := fun (s_1, _) =>
  (loop (σ := (Int × Int × (List Int) × Unit)) (ρ := ((List Int) × Unit)) (fun (i_2, j_3, s_4, _) =>
  (bif (decide (i_2 < j_3)) then (
  (idxN (s_4).length j_3).bind fun k5 =>
  ((atO s_4 k5 fun e6 => some e6)).bind fun y7 =>
  (idxN (s_4).length i_2).bind fun k8 =>
  ((atO s_4 k8 fun e9 => some e9)).bind fun y10 =>
  (idxN (s_4).length i_2).bind fun k11 =>
  ((atO s_4 k11 fun _ => some ((s_4).set k11 y7))).bind fun z13 =>
  (idxN (z13).length j_3).bind fun k14 =>
  ((atO z13 k14 fun _ => some ((z13).set k14 y10))).bind fun z16 =>
  some (.inl ((IntKind.i64.wrap (i_2 + ((1) : Int))), (IntKind.i64.wrap (j_3 - ((1) : Int))), z16, ()))) else (
  some (.inr (s_4, ()))))) (((0) : Int), (IntKind.i64.wrap ((((s_1).length : Nat) : Int) - ((1) : Int))), s_1, ())).bind fun (s_17, _) =>
  some (s_17, ())
noncomputable def d_rcm_Order : (((List (List Int)) × Unit) × Unit) → Option ((List Int) × Int × Unit) := fun (g_1, _) =>
  (d_graph_Check (g_1, ())).bind fun (r21, _) =>
  (bif (r21 != ((0) : Int)) then (
  some ([], r21, ())) else (
  (madeO (((g_1.1).length : Nat) : Int) (((g_1.1).length : Nat) : Int)).bind fun n22 =>
  (d_graph_Components (g_1, ())).bind fun (r23, _) =>
  (loop (σ := (Int × (List Int) × (List Bool) × (List (List Int)) × Unit)) (ρ := ((List Int) × Unit)) (fun (s_24, order_25, placed_26, s_27, _) =>
  (bif (decide (s_24 < (((r23).length : Nat) : Int))) then (
  (idxN (s_27).length s_24).bind fun k28 =>
  ((atO s_27 k28 fun e29 => some e29)).bind fun y30 =>
  (getI y30 ((0) : Int)).bind fun y31 =>
  (d_graph_Peripheral (g_1, y31, ())).bind fun (r32, _) =>
  (d_rcm_grow (g_1, r32, order_25, placed_26, ())).bind fun (m33, r34, _) =>
  some (.inl ((IntKind.i64.wrap (s_24 + ((1) : Int))), r34, m33, s_27, ()))) else (
  some (.inr (order_25, ()))))) (((0) : Int), [], (List.replicate n22 false), r23, ())).bind fun (order_35, _) =>
  (d_slices_Reverse_int_int (order_35, ())).bind fun (m36, _) =>
  some (m36, ((0) : Int), ())))
noncomputable def d_rcm_positions : ((List Int) × Unit) → Option ((List Int) × Unit) := fun (order_1, _) =>
  (madeO (((order_1).length : Nat) : Int) (((order_1).length : Nat) : Int)).bind fun n2 =>
  (loop (σ := (Int × (List Int) × Unit)) (ρ := ((List Int) × Unit)) (fun (s_3, out_4, _) =>
  (bif (decide (s_3 < (((order_1).length : Nat) : Int))) then (
  (getI order_1 s_3).bind fun y5 =>
  (idxN (out_4).length y5).bind fun k6 =>
  ((atO out_4 k6 fun _ => some ((out_4).set k6 s_3))).bind fun z8 =>
  some (.inl ((IntKind.i64.wrap (s_3 + ((1) : Int))), z8, ()))) else (
  some (.inr (out_4, ()))))) (((0) : Int), (List.replicate n2 (0 : Int)), ())).bind fun (out_9, _) =>
  some (out_9, ())
noncomputable def d_rcm_Bandwidth : (((List (List Int)) × Unit) × (List Int) × Unit) → Option (Int × Int × Unit) := fun (g_1, order_2, _) =>
  (d_graph_Permuted (g_1, order_2, ())).bind fun (r3, _) =>
  (bif (r3 != ((0) : Int)) then (
  some (((0) : Int), r3, ())) else (
  (d_rcm_positions (order_2, ())).bind fun (r4, _) =>
  (loop (σ := (Int × Int × Unit)) (ρ := (Int × Unit)) (fun (width_5, s_6, _) =>
  (bif (decide (s_6 < (((g_1.1).length : Nat) : Int))) then (
  (getI g_1.1 s_6).bind fun y7 =>
  (loop (σ := (Int × Int × Unit)) (ρ := (Int × Unit)) (fun (width_8, s_9, _) =>
  (bif (decide (s_9 < (((y7).length : Nat) : Int))) then (
  (getI y7 s_9).bind fun y10 =>
  (getI r4 s_6).bind fun y11 =>
  (getI r4 y10).bind fun y12 =>
  some (.inl ((if (IntKind.i64.wrap (y11 - y12)) > width_8 then (IntKind.i64.wrap (y11 - y12)) else width_8), (IntKind.i64.wrap (s_9 + ((1) : Int))), ()))) else (
  some (.inr (width_8, ()))))) (width_5, ((0) : Int), ())).bind fun (width_13, _) =>
  some (.inl (width_13, (IntKind.i64.wrap (s_6 + ((1) : Int))), ()))) else (
  some (.inr (width_5, ()))))) (((0) : Int), ((0) : Int), ())).bind fun (width_14, _) =>
  some (width_14, ((0) : Int), ())))
noncomputable def d_sparselaw17q_awake : Unit → Option (Bool × Unit) := fun _ =>
  (d_rcm_Order (([[((1) : Int)], [((0) : Int), ((2) : Int)], [((1) : Int)]], ()), ())).bind fun (r1, r2, _) =>
  (d_rcm_Bandwidth (([[((1) : Int)], [((0) : Int), ((2) : Int)], [((1) : Int)]], ()), [((0) : Int), ((2) : Int), ((1) : Int)], ())).bind fun (r3, r4, _) =>
  (bif ((r2 == ((0) : Int)) == true) then ((bif ((r4 == ((0) : Int)) == true) then ((d_sparsekit_Ints (r1, [((2) : Int), ((1) : Int), ((0) : Int)], ())).bind fun (r5, _) =>
  (bif (r5 == true) then (some ((r3 == ((2) : Int)), ())) else (some (false, ())))) else (some (false, ())))) else (some (false, ())))
noncomputable def d_sparseref12q_Components : (((List (List Int)) × Unit) × Unit) → Option ((List (List Int)) × Unit) := fun (g_1, _) =>
  (d_sparseref12q_Check (g_1, ())).bind fun (r133, _) =>
  (bif (r133 != ((0) : Int)) then (
  some ([], ())) else (
  (madeO (((g_1.1).length : Nat) : Int) (((g_1.1).length : Nat) : Int)).bind fun n134 =>
  (loop (σ := (Int × (List Bool) × (List (List Int)) × Unit)) (ρ := ((List (List Int)) × Unit)) (fun (v_135, seen_136, out_137, _) =>
  (bif (decide (v_135 < (((g_1.1).length : Nat) : Int))) then (
  Option.bind (α := ((List Bool) × (List (List Int)) × Unit)) (
  (idxN (seen_136).length v_135).bind fun k138 =>
  ((atO seen_136 k138 fun e139 => some e139)).bind fun y140 =>
  (bif y140 then (
  some (seen_136, out_137, ())) else (
  (d_sparseref12q_Levels (g_1, v_135, ())).bind fun (r141, _) =>
  (madeO (((g_1.1).length : Nat) : Int) (((g_1.1).length : Nat) : Int)).bind fun n142 =>
  (loop (σ := (Int × (List Bool) × (List (List Int)) × (List Bool) × Unit)) (ρ := ((List Bool) × (List (List Int)) × (List Bool) × Unit)) (fun (i_143, seen_144, out_145, in_146, _) =>
  (bif (decide (i_143 < (((r141).length : Nat) : Int))) then (
  (loop (σ := (Int × (List Bool) × (List (List Int)) × (List Bool) × Unit)) (ρ := ((List Bool) × (List (List Int)) × (List Bool) × Unit)) (fun (k_147, seen_148, out_149, in_150, _) =>
  (getI r141 i_143).bind fun y151 =>
  (bif (decide (k_147 < (((y151).length : Nat) : Int))) then (
  (getI r141 i_143).bind fun y152 =>
  (getI y152 k_147).bind fun y153 =>
  (idxN (in_150).length y153).bind fun k154 =>
  ((atO in_150 k154 fun _ => some ((in_150).set k154 true))).bind fun z156 =>
  some (.inl ((IntKind.i64.wrap (k_147 + ((1) : Int))), seen_148, out_149, z156, ()))) else (
  some (.inr (seen_148, out_149, in_150, ()))))) (((0) : Int), seen_144, out_145, in_146, ())).bind fun (seen_157, out_158, in_159, _) =>
  some (.inl ((IntKind.i64.wrap (i_143 + ((1) : Int))), seen_157, out_158, in_159, ()))) else (
  some (.inr (seen_144, out_145, in_146, ()))))) (((0) : Int), seen_136, out_137, (List.replicate n142 false), ())).bind fun (seen_160, out_161, in_162, _) =>
  (loop (σ := (Int × (List Bool) × (List (List Int)) × (List Bool) × (List Int) × Unit)) (ρ := ((List Bool) × (List (List Int)) × (List Int) × Unit)) (fun (w_163, seen_164, out_165, in_166, c_167, _) =>
  (bif (decide (w_163 < (((g_1.1).length : Nat) : Int))) then (
  Option.bind (α := ((List Bool) × (List (List Int)) × (List Bool) × (List Int) × Unit)) (
  (idxN (in_166).length w_163).bind fun k168 =>
  ((atO in_166 k168 fun e169 => some e169)).bind fun y170 =>
  (bif y170 then (
  (limO ((c_167).length + ([w_163]).length)).bind fun _ =>
  (idxN (seen_164).length w_163).bind fun k171 =>
  ((atO seen_164 k171 fun _ => some ((seen_164).set k171 true))).bind fun z173 =>
  some (z173, out_165, in_166, (c_167 ++ [w_163]), ())) else (
  some (seen_164, out_165, in_166, c_167, ())))) fun (seen_174, out_175, in_176, c_177, _) =>
  some (.inl ((IntKind.i64.wrap (w_163 + ((1) : Int))), seen_174, out_175, in_176, c_177, ()))) else (
  some (.inr (seen_164, out_165, c_167, ()))))) (((0) : Int), seen_160, out_161, in_162, [], ())).bind fun (seen_178, out_179, c_180, _) =>
  (limO ((out_179).length + ([c_180]).length)).bind fun _ =>
  some (seen_178, (out_179 ++ [c_180]), ())))) fun (seen_181, out_182, _) =>
  some (.inl ((IntKind.i64.wrap (v_135 + ((1) : Int))), seen_181, out_182, ()))) else (
  some (.inr (out_137, ()))))) (((0) : Int), (List.replicate n134 false), [], ())).bind fun (out_183, _) =>
  some (out_183, ())))
noncomputable def d_sparseref12q_Peripheral : (((List (List Int)) × Unit) × Int × Unit) → Option (Int × Unit) := fun (g_1, v_2, _) =>
  Option.bind (α := Unit ⊕ (Int × Unit)) (
  (d_sparseref12q_Check (g_1, ())).bind fun (r3, _) =>
  (bif ((r3 != ((0) : Int)) == false) then ((bif ((decide (v_2 < ((0) : Int))) == false) then ((bif (decide (v_2 ≥ (((g_1.1).length : Nat) : Int))) then (
  some (.inr ((-1 : Int), ()))) else (
  some (.inl ())))) else (some (.inr ((-1 : Int), ()))))) else (some (.inr ((-1 : Int), ()))))) fun q => match q with
  | .inl _ => (
  (loop (σ := (Int × Unit)) (ρ := (Int × Unit)) (fun (v_4, _) =>
  (d_sparseref12q_Levels (g_1, v_4, ())).bind fun (r5, _) =>
  (getI r5 (IntKind.i64.wrap ((((r5).length : Nat) : Int) - ((1) : Int)))).bind fun y6 =>
  (getI y6 ((0) : Int)).bind fun y7 =>
  (loop (σ := (Int × Int × Unit)) (ρ := (Int × Unit)) (fun (w_8, i_9, _) =>
  (bif (decide (i_9 < (((y6).length : Nat) : Int))) then (
  Option.bind (α := (Int × Unit)) (
  (getI y6 i_9).bind fun y10 =>
  (getI g_1.1 y10).bind fun y11 =>
  (getI g_1.1 w_8).bind fun y12 =>
  (bif (decide ((((y11).length : Nat) : Int) < (((y12).length : Nat) : Int))) then (
  (getI y6 i_9).bind fun y13 =>
  some (y13, ())) else (
  some (w_8, ())))) fun (w_14, _) =>
  some (.inl (w_14, (IntKind.i64.wrap (i_9 + ((1) : Int))), ()))) else (
  some (.inr (w_8, ()))))) (y7, ((1) : Int), ())).bind fun (w_15, _) =>
  (d_sparseref12q_Levels (g_1, w_15, ())).bind fun (r16, _) =>
  (bif (decide ((((r16).length : Nat) : Int) ≤ (((r5).length : Nat) : Int))) then (
  some (.inr (v_4, ()))) else (
  some (.inl (w_15, ()))))) (v_2, ())).bind some)
  | .inr r => some r
noncomputable def d_sparseref17q_Order : (((List (List Int)) × Unit) × Unit) → Option ((List Int) × Int × Unit) := fun (g_1, _) =>
  (d_sparseref12q_Check (g_1, ())).bind fun (r116, _) =>
  (bif (r116 != ((0) : Int)) then (
  some ([], r116, ())) else (
  (madeO (((g_1.1).length : Nat) : Int) (((g_1.1).length : Nat) : Int)).bind fun n117 =>
  (d_sparseref12q_Components (g_1, ())).bind fun (r118, _) =>
  (loop (σ := (Int × (List Bool) × (List Int) × Unit)) (ρ := ((List Int) × Unit)) (fun (k_119, in_120, l_121, _) =>
  (bif (decide (k_119 < (((r118).length : Nat) : Int))) then (
  (getI r118 k_119).bind fun y122 =>
  (getI y122 ((0) : Int)).bind fun y123 =>
  (d_sparseref12q_Peripheral (g_1, y123, ())).bind fun (r124, _) =>
  (limO ((l_121).length + ([r124]).length)).bind fun _ =>
  (idxN (in_120).length r124).bind fun k125 =>
  ((atO in_120 k125 fun _ => some ((in_120).set k125 true))).bind fun z127 =>
  (loop (σ := (Int × (List Bool) × (List Int) × Unit)) (ρ := ((List Bool) × (List Int) × Unit)) (fun (at_128, in_129, l_130, _) =>
  (bif (decide (at_128 < (((l_130).length : Nat) : Int))) then (
  (loop (σ := ((List Bool) × (List Int) × Unit)) (ρ := ((List Bool) × (List Int) × Unit)) (fun (in_131, l_132, _) =>
  (loop (σ := (Int × Int × (List Bool) × (List Int) × Unit)) (ρ := (Int × (List Bool) × (List Int) × Unit)) (fun (best_133, i_134, in_135, l_136, _) =>
  (idxN (l_136).length at_128).bind fun k137 =>
  ((atO l_136 k137 fun e138 => some e138)).bind fun y139 =>
  (getI g_1.1 y139).bind fun y140 =>
  (bif (decide (i_134 < (((y140).length : Nat) : Int))) then (
  Option.bind (α := (Int × (List Bool) × (List Int) × Unit)) (
  (idxN (l_136).length at_128).bind fun k141 =>
  ((atO l_136 k141 fun e142 => some e142)).bind fun y143 =>
  (getI g_1.1 y143).bind fun y144 =>
  (getI y144 i_134).bind fun y145 =>
  Option.bind (α := (Bool × (List Bool) × (List Int) × Unit)) (
  (idxN (in_135).length y145).bind fun k146 =>
  ((atO in_135 k146 fun e147 => some e147)).bind fun y148 =>
  (bif ((!y148) == true) then ((bif ((decide (best_133 < ((0) : Int))) == false) then ((getI g_1.1 y145).bind fun y149 =>
  (getI g_1.1 best_133).bind fun y150 =>
  some ((decide ((((y149).length : Nat) : Int) < (((y150).length : Nat) : Int))), in_135, l_136, ())) else (some (true, in_135, l_136, ())))) else (some (false, in_135, l_136, ())))) fun (s_151, in_152, l_153, _) =>
  (bif s_151 then (
  some (y145, in_152, l_153, ())) else (
  some (best_133, in_152, l_153, ())))) fun (best_154, in_155, l_156, _) =>
  some (.inl (best_154, (IntKind.i64.wrap (i_134 + ((1) : Int))), in_155, l_156, ()))) else (
  some (.inr (best_133, in_135, l_136, ()))))) ((-1 : Int), ((0) : Int), in_131, l_132, ())).bind fun (best_157, in_158, l_159, _) =>
  (bif (decide (best_157 < ((0) : Int))) then (
  some (.inr (in_158, l_159, ()))) else (
  (limO ((l_159).length + ([best_157]).length)).bind fun _ =>
  (idxN (in_158).length best_157).bind fun k160 =>
  ((atO in_158 k160 fun _ => some ((in_158).set k160 true))).bind fun z162 =>
  some (.inl (z162, (l_159 ++ [best_157]), ()))))) (in_129, l_130, ())).bind fun (in_163, l_164, _) =>
  some (.inl ((IntKind.i64.wrap (at_128 + ((1) : Int))), in_163, l_164, ()))) else (
  some (.inr (in_129, l_130, ()))))) ((((l_121).length : Nat) : Int), z127, (l_121 ++ [r124]), ())).bind fun (in_165, l_166, _) =>
  some (.inl ((IntKind.i64.wrap (k_119 + ((1) : Int))), in_165, l_166, ()))) else (
  some (.inr (l_121, ()))))) (((0) : Int), (List.replicate n117 false), [], ())).bind fun (l_167, _) =>
  (loop (σ := (Int × (List Int) × (List Int) × Unit)) (ρ := ((List Int) × Unit)) (fun (i_168, l_169, out_170, _) =>
  (bif (decide (i_168 ≥ ((0) : Int))) then (
  (idxN (l_169).length i_168).bind fun k171 =>
  ((atO l_169 k171 fun e172 => some e172)).bind fun y173 =>
  (limO ((out_170).length + ([y173]).length)).bind fun _ =>
  some (.inl ((IntKind.i64.wrap (i_168 - ((1) : Int))), l_169, (out_170 ++ [y173]), ()))) else (
  some (.inr (out_170, ()))))) ((IntKind.i64.wrap ((((l_167).length : Nat) : Int) - ((1) : Int))), l_167, [], ())).bind fun (out_174, _) =>
  some (out_174, ((0) : Int), ())))
noncomputable def d_sparseref17q_check : (((List (List Int)) × Unit) × (List Int) × Unit) → Option (Int × Unit) := fun (g_1, order_2, _) =>
  (d_sparseref12q_Check (g_1, ())).bind fun (r3, _) =>
  (bif (r3 != ((0) : Int)) then (
  some (r3, ())) else (
  (bif ((((order_2).length : Nat) : Int) != (((g_1.1).length : Nat) : Int)) then (
  some (((2) : Int), ())) else (
  (d_sparsekit_Perm (order_2, (((g_1.1).length : Nat) : Int), ())).bind fun (r4, _) =>
  (bif (!r4) then (
  some (((90) : Int), ())) else (
  some (((0) : Int), ())))))))
noncomputable def d_sparseref17q_First : (((List (List Int)) × Unit) × (List Int) × Unit) → Option ((List Int) × Unit) := fun (g_1, order_2, _) =>
  (d_sparsekit_Invert (order_2, ())).bind fun (r4, _) =>
  (loop (σ := (Int × (List Int) × Unit)) (ρ := ((List Int) × Unit)) (fun (k_5, out_6, _) =>
  (bif (decide (k_5 < (((order_2).length : Nat) : Int))) then (
  (getI order_2 k_5).bind fun y7 =>
  (getI g_1.1 y7).bind fun y8 =>
  (loop (σ := (Int × Int × (List Int) × Unit)) (ρ := (Int × (List Int) × Unit)) (fun (least_9, i_10, out_11, _) =>
  (bif (decide (i_10 < (((y8).length : Nat) : Int))) then (
  (getI y8 i_10).bind fun y12 =>
  (getI r4 y12).bind fun y13 =>
  some (.inl ((if y13 < least_9 then y13 else least_9), (IntKind.i64.wrap (i_10 + ((1) : Int))), out_11, ()))) else (
  some (.inr (least_9, out_11, ()))))) (k_5, ((0) : Int), out_6, ())).bind fun (least_14, out_15, _) =>
  (limO ((out_15).length + ([least_14]).length)).bind fun _ =>
  some (.inl ((IntKind.i64.wrap (k_5 + ((1) : Int))), (out_15 ++ [least_14]), ()))) else (
  some (.inr (out_6, ()))))) (((0) : Int), [], ())).bind fun (out_16, _) =>
  some (out_16, ())
noncomputable def d_sparseref17q_Bandwidth : (((List (List Int)) × Unit) × (List Int) × Unit) → Option (Int × Int × Unit) := fun (g_1, order_2, _) =>
  (d_sparseref17q_check (g_1, order_2, ())).bind fun (r3, _) =>
  (bif (r3 != ((0) : Int)) then (
  some (((0) : Int), r3, ())) else (
  (d_sparseref17q_First (g_1, order_2, ())).bind fun (r4, _) =>
  (loop (σ := (Int × Int × Unit)) (ρ := (Int × Unit)) (fun (most_5, k_6, _) =>
  (bif (decide (k_6 < (((r4).length : Nat) : Int))) then (
  (getI r4 k_6).bind fun y7 =>
  some (.inl ((if (IntKind.i64.wrap (k_6 - y7)) > most_5 then (IntKind.i64.wrap (k_6 - y7)) else most_5), (IntKind.i64.wrap (k_6 + ((1) : Int))), ()))) else (
  some (.inr (most_5, ()))))) (((0) : Int), ((0) : Int), ())).bind fun (most_8, _) =>
  some (most_8, ((0) : Int), ())))
noncomputable def d_rcm_Profile : (((List (List Int)) × Unit) × (List Int) × Unit) → Option (Int × Int × Unit) := fun (g_1, order_2, _) =>
  (d_graph_Permuted (g_1, order_2, ())).bind fun (r3, _) =>
  (bif (r3 != ((0) : Int)) then (
  some (((0) : Int), r3, ())) else (
  (d_rcm_positions (order_2, ())).bind fun (r4, _) =>
  (loop (σ := (Int × Int × Unit)) (ρ := (Int × Unit)) (fun (sum_5, s_6, _) =>
  (bif (decide (s_6 < (((order_2).length : Nat) : Int))) then (
  (getI order_2 s_6).bind fun y7 =>
  (getI g_1.1 y7).bind fun y8 =>
  (loop (σ := (Int × Int × Unit)) (ρ := (Int × Unit)) (fun (first_9, s_10, _) =>
  (bif (decide (s_10 < (((y8).length : Nat) : Int))) then (
  (getI y8 s_10).bind fun y11 =>
  (getI r4 y11).bind fun y12 =>
  some (.inl ((if y12 < first_9 then y12 else first_9), (IntKind.i64.wrap (s_10 + ((1) : Int))), ()))) else (
  some (.inr (first_9, ()))))) (s_6, ((0) : Int), ())).bind fun (first_13, _) =>
  some (.inl ((IntKind.i64.wrap (sum_5 + (IntKind.i64.wrap (s_6 - first_13)))), (IntKind.i64.wrap (s_6 + ((1) : Int))), ()))) else (
  some (.inr (sum_5, ()))))) (((0) : Int), ((0) : Int), ())).bind fun (sum_14, _) =>
  some (sum_14, ((0) : Int), ())))
noncomputable def d_sparseref17q_Profile : (((List (List Int)) × Unit) × (List Int) × Unit) → Option (Int × Int × Unit) := fun (g_1, order_2, _) =>
  (d_sparseref17q_check (g_1, order_2, ())).bind fun (r3, _) =>
  (bif (r3 != ((0) : Int)) then (
  some (((0) : Int), r3, ())) else (
  (d_sparseref17q_First (g_1, order_2, ())).bind fun (r4, _) =>
  (loop (σ := (Int × Int × Unit)) (ρ := (Int × Unit)) (fun (sum_5, k_6, _) =>
  (bif (decide (k_6 < (((r4).length : Nat) : Int))) then (
  (getI r4 k_6).bind fun y7 =>
  some (.inl ((IntKind.i64.wrap ((IntKind.i64.wrap (sum_5 + k_6)) - y7)), (IntKind.i64.wrap (k_6 + ((1) : Int))), ()))) else (
  some (.inr (sum_5, ()))))) (((0) : Int), ((0) : Int), ())).bind fun (sum_8, _) =>
  some (sum_8, ((0) : Int), ())))
noncomputable def d_sparselaw17q_RcmMade : (Int × (List Int) × (List Int) × Unit) → Option (Bool × Unit) := fun (n_1, l_2, order_3, _) =>
  (bif (decide ((((l_2).length : Nat) : Int) > ((80) : Int))) then (
  (d_sparselaw17q_awake ()).bind fun (r4, _) =>
  some (r4, ())) else (
  (d_sparsekit_Place (n_1, ((13) : Int), ())).bind fun (r5, _) =>
  (d_sparsemake_Graph (r5, l_2, ())).bind fun (r6, _) =>
  (d_sparsekit_Shuffle (order_3, r5, ())).bind fun (r7, _) =>
  (d_rcm_Order (r6, ())).bind fun (r8, r9, _) =>
  (d_sparseref17q_Order (r6, ())).bind fun (r10, _, _) =>
  (d_rcm_Bandwidth (r6, r7, ())).bind fun (r12, r13, _) =>
  (d_sparseref17q_Bandwidth (r6, r7, ())).bind fun (r14, _, _) =>
  (d_rcm_Profile (r6, r7, ())).bind fun (r16, r17, _) =>
  (d_sparseref17q_Profile (r6, r7, ())).bind fun (r18, _, _) =>
  (bif ((r9 == ((0) : Int)) == true) then ((bif ((r13 == ((0) : Int)) == true) then ((bif ((r17 == ((0) : Int)) == true) then ((d_sparsekit_Ints (r8, r10, ())).bind fun (r20, _) =>
  (bif (r20 == true) then ((bif ((r12 == r14) == true) then ((bif ((r16 == r18) == true) then ((d_sparselaw17q_awake ()).bind fun (r21, _) =>
  some (r21, ())) else (some (false, ())))) else (some (false, ())))) else (some (false, ())))) else (some (false, ())))) else (some (false, ())))) else (some (false, ())))))
end Go.Fw
end

section
set_option linter.all false
namespace Go.Proofs
open Go.RowKit Go.Shelf Go.Sort
attribute [local go_sem] Oper.semAt_some
def Try.laysCompact_ren : Go.Shelf.Ren := ⟨fun | 20 => 75 | n => n, fun | 22 => 22 | 3 => 3 | 4 => 4 | 0 => 0 | n => n, fun | n => n⟩
theorem Try.laysCompact : Lays2.n20 Try.prog Try.laysCompact_ren where
  mixed := by kernel_rfl
  f20 := Try.func75.trans (congrArg some (by kernel_rfl))
  t0 := Try.underlying0
  a0 := Try.isAgg0
  z0 := Try.sizeOf0
  v0 := Try.zeroValue0
  t3 := Try.underlying3
  a3 := Try.isAgg3
  z3 := Try.sizeOf3
  v3 := Try.zeroValue3
  t4 := Try.underlying4
  a4 := Try.isAgg4
  z4 := Try.sizeOf4
  v4 := Try.zeroValue4
  t22 := Try.underlying22
  a22 := Try.isAgg22
  z22 := Try.sizeOf22
  v22 := Try.zeroValue22
  i3 := by kernel_rfl
namespace Tw
def upto {α : Type} (f : Nat → α) (k : Nat) : List α := (List.range k).map f
theorem upto_succ {α : Type} (f : Nat → α) (k : Nat) : upto f (k + 1) = upto f k ++ [f k] := by simp [upto, List.range_succ]
theorem upto_length {α : Type} (f : Nat → α) (k : Nat) : (upto f k).length = k := by simp [upto]
theorem upto_all (zs : List Int) : upto (fun j => zs[j]?.getD 0) zs.length = zs := by
  apply List.ext_getElem
  · simp [upto]
  · intro i h1 h2
    simp [upto, h2]
set_option maxRecDepth 100000 in
set_option maxHeartbeats 2000000 in
theorem valuesA_in (F : Fence) (n : Nat) (h7 : F.fn 100) (hro : F.round = none) (hn : 1 ≤ n) (l Bs n₀ b off len cap : Nat) (zs : List Int) (hreach : len * 8 ≤ 140737488351232) (hb : b < n₀) (J Jx : List Int → World → Prop)
    (hY : ∀ pre x W, J pre W → pre.length < len → YieldAt F (n - 1) Try.prog l #[.int .i64 x] W fun e W' =>
      (e = .returned (.bool true) ∧ J (pre ++ [x]) W' ∧ Below n₀ W W') ∨ (e = .returned (.bool false) ∧ Jx (pre ++ [x]) W'))
    (W : World) (hBs : W.cell? ⟨Bs, 0, none⟩ = some (.slice (some ⟨b, off, none⟩) len cap)) (hc : ∀ j, j < len → W.cell? ⟨b, off + j, none⟩ = some (.int .i64 (zs[j]?.getD 0))) (h0 : J [] W) :
    CallsIn F n Try.prog 100 #[.func (.yield l) #[] #[], .pointer (some ⟨Bs, 0, none⟩)] W fun e W' => (∃ v, e = .returned v) ∧
      ((∃ ys, ys = upto (fun j => zs[j]?.getD 0) len ∧ J ys W') ∨ (∃ pre, (∃ k, k ≤ len ∧ pre = upto (fun j => zs[j]?.getD 0) k) ∧ Jx pre W')) := by
  refine callsIn_of_wp Try.func100 rfl h7 ?_ hro
  simp only [Try.ntmps100, List.size_toArray, List.length_cons, List.length_nil, Nat.reduceAdd, Nat.reduceSub, Array.replicate_succ, Array.replicate_zero, List.push_toArray, List.append_toArray, List.nil_append, List.cons_append]
  gi_wp2
  gi_loopw [7] (fun i wr => ∃ k : Nat, k ≤ len ∧ i = .int .i64 k ∧ J (upto (fun j => zs[j]?.getD 0) k) wr ∧ Below n₀ W wr)
    (fun i _ => len - (intOf i).toNat)
  case atStart => exact ⟨0, Nat.zero_le _, rfl, h0, Below.refl _ _⟩
  case round =>
    obtain ⟨k, hk, rfl, hJs, hnx⟩ := hrel
    have hcx : k < len → wr.cell? ⟨b, off + k, none⟩ = some (.int .i64 (zs[k]?.getD 0)) := fun h => (hnx.cell (p := ⟨b, off + k, none⟩) hb).trans (hc k h)
    by_cases hlt : k < len
    · obtain ⟨fn, tmps, assign, body, hy, hR⟩ := hY _ (zs[k]?.getD 0) wr hJs (by rw [upto_length]; exact hlt)
      have hcx' := hcx hlt
      gi_wp2
      refine hR.mono ?_
      rintro e W3 (⟨rfl, hJ3, hk3⟩ | ⟨rfl, hJx3⟩)
      · gi_wp2
        go_roundw
        case rel => exact ⟨k + 1, by omega, by simp, by rw [upto_succ]; exact hJ3, hnx.trans hk3⟩
        case measure => simp [intOf]; omega
      · gi_wp2
        refine bodyPost_ret (results_none rfl _ _ _) rfl ?_
        exact ⟨⟨_, rfl⟩, .inr ⟨_, ⟨k + 1, by omega, (upto_succ _ _).symm⟩, hJx3⟩⟩
    · obtain rfl : k = len := by omega
      gi_wp2
      go_end0
      exact ⟨⟨_, rfl⟩, .inl ⟨_, rfl, hJs⟩⟩
theorem upto_take (zs : List Int) {k : Nat} (hk : k ≤ zs.length) : upto (fun j => zs[j]?.getD 0) k = zs.take k := by
  apply List.ext_getElem
  · simp [upto, hk]
  · intro i h1 h2
    have : i < zs.length := by simp [upto] at h1; omega
    simp [upto, this]
def Ints (n₀ : Nat) (W : World) (sv : Value) (zs : List Int) : Prop :=
  (∃ a cap, sv = .slice a 0 cap ∧ zs = []) ∨ ∃ b off cap, sv = .slice (some ⟨b, off, none⟩) zs.length cap ∧ b < n₀ ∧ ∀ j, j < zs.length → W.cell? ⟨b, off + j, none⟩ = some (.int .i64 (zs[j]?.getD 0))
theorem Ints.below {n₀ : Nat} {A B : World} (h : Below n₀ A B) {sv : Value} {zs : List Int} : Ints n₀ A sv zs → Ints n₀ B sv zs
  | .inl e => .inl e
  | .inr ⟨b, off, cap, e, hb, hc⟩ => .inr ⟨b, off, cap, e, hb, fun j hj => (h.cell (p := ⟨b, off + j, none⟩) hb).trans (hc j hj)⟩
set_option maxRecDepth 100000 in
set_option maxHeartbeats 1000000 in
theorem valuesA_nil_in (F : Fence) (n : Nat) (h7 : F.fn 100) (hro : F.round = none) (l Bs : Nat) (a : Option Addr) (cap : Nat) (J : List Int → World → Prop) (W : World) (hBs : W.cell? ⟨Bs, 0, none⟩ = some (.slice a 0 cap)) (h0 : J [] W) :
    CallsIn F n Try.prog 100 #[.func (.yield l) #[] #[], .pointer (some ⟨Bs, 0, none⟩)] W fun e W' => (∃ v, e = .returned v) ∧ J [] W' := by
  refine callsIn_of_wp Try.func100 rfl h7 ?_ hro
  simp only [Try.ntmps100, List.size_toArray, List.length_cons, List.length_nil, Nat.reduceAdd, Nat.reduceSub, Array.replicate_succ, Array.replicate_zero, List.push_toArray, List.append_toArray, List.nil_append, List.cons_append]
  gi_wp2
  gi_loopw [7] (fun i wr => i = .int .i64 0 ∧ J [] wr) (fun _ _ => 0)
  case atStart => exact ⟨rfl, h0⟩
  case round =>
    obtain ⟨rfl, hJs⟩ := hrel
    gi_wp2
    go_end0
    exact ⟨⟨_, rfl⟩, hJs⟩
set_option maxHeartbeats 1000000 in
theorem values_in (F : Fence) (n : Nat) (h5 : F.fn 77) (hro : F.round = none) (a : Option Addr) (len cap : Nat) (w : World) :
    CallsIn F n Try.prog 77 #[.slice a len cap] w fun e w' => e = .returned (.func (.func 100) #[] #[.pointer (some ⟨w.heap.size, 0, none⟩)]) ∧ w' = w.alloc (.cells #[.slice a len cap] 22) := by
  refine callsIn_of_wp Try.func77 rfl h5 ?_ hro
  simp only [Try.ntmps77, List.size_toArray, List.length_cons, List.length_nil, Nat.reduceAdd, Nat.reduceSub, Array.replicate_succ, Array.replicate_zero, List.push_toArray, List.append_toArray, List.nil_append, List.cons_append]
  gi_wp2
  go_ret
  exact ⟨rfl, rfl⟩
theorem values_stops (F : Fence) (n : Nat) (h7 : F.fn 100) (hro : F.round = none) (hn : 1 ≤ n) (Bs n₀ : Nat) (sv : Value) (zs : List Int) (hreach : zs.length * 8 ≤ 140737488351232) (w : World) (hBs : Bs < w.heap.size) (hn₀ : n₀ ≤ w.heap.size)
    (hc : w.cell? ⟨Bs, 0, none⟩ = some sv) (hI : Ints n₀ w sv zs) :
    SeqStopsK F n Try.prog 100 #[.pointer (some ⟨Bs, 0, none⟩)] (fun x : Int => #[Value.int .i64 x]) (Below n₀) (fun ys => ys = zs) (fun pre => pre <+: zs) zs.length w := fun l J Jx W hW _ _ hY h0 => by
  have hc' := (hW.cell (p := ⟨Bs, 0, none⟩) hBs).trans hc
  rcases hI.below (hW.mono hn₀) with ⟨a, cap, rfl, rfl⟩ | ⟨b, off, cap, rfl, hb, hcs⟩
  · exact (valuesA_nil_in F n h7 hro l Bs a cap J W hc' h0).mono fun e W' ⟨he, hj⟩ => ⟨he, .inl ⟨_, rfl, hj⟩⟩
  · refine (valuesA_in F n h7 hro hn l Bs n₀ b off zs.length cap zs hreach hb J Jx hY W hc' hcs h0).mono ?_
    rintro e W' ⟨he, ⟨ys, rfl, hj⟩ | ⟨pre, ⟨k, hk, rfl⟩, hj⟩⟩
    · exact ⟨he, .inl ⟨_, upto_all zs, hj⟩⟩
    · exact ⟨he, .inr ⟨_, by rw [upto_take zs hk]; exact List.take_prefix _ _, hj⟩⟩
theorem info3 : (Try.prog.info? 3).map (fun i => (i.zero, i.size, i.bytes)) = some (some (.int .i64 0), 1, 8) := by kernel_rfl
set_option maxRecDepth 100000 in
set_option maxHeartbeats 2000000 in
theorem appendSeq_in (F : Fence) (n : Nat) (h3 : F.fn 109) (h5 : F.fn 100) (hro : F.round = none) (hn : 3 ≤ n) (Bs : Nat) (sv : Value) (zs : List Int) (hreach : zs.length * 8 ≤ 140737488351232) (w : World) (hBs : Bs < w.heap.size)
    (hc : w.cell? ⟨Bs, 0, none⟩ = some sv) (hI : Ints w.heap.size w sv zs) :
    CallsIn F n Try.prog 109 #[.slice none 0 0, .func (.func 100) #[] #[.pointer (some ⟨Bs, 0, none⟩)]] w fun e W' => ∃ v, e = .returned v ∧ W'.ownsRow w.heap.size 3 1 v zs.length (zs.map (Value.int .i64)) ∧ (v = .slice none 0 0 ↔ zs = []) ∧ Below w.heap.size w W' := by
  have h1 : 1 ≤ n := by omega
  obtain ⟨i0, hi, hz0, hz1, hz2⟩ := info_parts info3
  refine callsIn_of_wp_marks Try.func109 rfl h3 ?_ hro
  simp only [Try.ntmps109, List.size_toArray, List.length_cons, List.length_nil, Nat.reduceAdd, Nat.reduceSub, Array.replicate_succ, Array.replicate_zero, List.push_toArray, List.append_toArray, List.nil_append, List.cons_append]
  gi_wp2
  have bO := Boxed.new w 22 (.slice none 0 0)
  have hB0 : Below w.heap.size w (w.alloc (.cells #[.slice none 0 0] 22)) := (Below.refl _ w).alloc (Nat.le_refl _) _
  refine wpIn_rangeFunc_ownG hro h1 (gf := 100) (lb := #[.pointer (some ⟨Bs, 0, none⟩)]) rfl h5 (enters_of Try.func100 (by kernel_rfl) rfl)
    (values_stops F (n - 1) h5 hro (by omega) Bs w.heap.size sv zs hreach _ (by simp; omega) (by simp) ((hB0.cell (p := ⟨Bs, 0, none⟩) hBs).trans hc) (hI.below hB0)) belowK_t (belowK_b (by simp)) (Below.refl _ _) (fun _ => rfl)
    (fun pre W => (∃ v, Boxed W w.heap.size 22 v ∧ W.ownsRow w.heap.size 3 1 v pre.length (pre.map (Value.int .i64)) ∧ (v = .slice none 0 0 ↔ pre = [])) ∧ Below w.heap.size w W)
    (fun _ _ _ => False)
    (OwnFrom.and (Own.from (holdsRow_own w.heap.size w.heap.size 22 3 1 (fun pre => pre.length) (fun pre => pre.map (Value.int .i64)) (fun pre v => v = .slice none 0 0 ↔ pre = [])) _) (ownFrom_below (Nat.le_refl _) (by simp)))
    (fun _ _ _ _ _ hs _ _ => hs)
    ⟨⟨_, bO, World.ownsRow_nil _ _ _ _, by simp⟩, hB0⟩
    (fun x => { tmps := #[.slice none 0 0, .func (.func 100) #[] #[.pointer (some ⟨Bs, 0, none⟩)], .pointer (some ⟨w.heap.size, 0, none⟩), undef, .slice none 0 0, .int .i64 x, .func (.func 100) #[] #[.pointer (some ⟨Bs, 0, none⟩)], .int .i64 x, undef, undef, undef, undef, undef], defers := [] }) ?assign ?body ?done ?stop
  case assign =>
    intro l x W K hK
    gi_wp2
    exact hK
  case body =>
    rintro l pre x W ⟨⟨v, hv, hrow, hnil⟩, hB⟩ hlt
    have hc := hv.cell
    have hlen : zs.length ≤ maxLen := by simp only [maxLen]; omega
    have hbytes : zs.length * 8 ≤ 140737488355328 := by omega
    gi_wp2_with (gi_at_builtin; refine wpListIn_append_own _ rfl _ _ 22 rfl w.heap.size 3 i0 (.int .i64 0) 1 8 Try.underlying22 hi hz0 hz1 hz2 rfl (by decide) _ _ _ rfl (hrow.alloc _) ⟨W.heap.size, 0, none⟩ 1 1 [.int .i64 x] rfl rfl (cell_one_new _ _ _) (by simp [Value.oneCell']) (by omega) (by omega) (by have := hB.size; simp; omega) ?_; intro v' w1 hown' hgrow _; obtain ⟨g', cap', rfl⟩ := ownsRow_succ hown'; obtain ⟨hv1, hv2, hr2, hk2, hb2⟩ := hv.appended (by decide) hrow hB.size (Nat.le_refl _) hown' hgrow; have hc1 := hv1.cell; have hf1 := hv1.frozen)
    exact ⟨hk2.from _, hb2, ⟨_, hv2, by simpa using hr2, by simp⟩, hB.trans hb2⟩
  case done =>
    rintro D ys W hD rfl ⟨⟨v, hv, hrow, hnil⟩, hB⟩ hK
    have hc := hv.cell
    gi_wp2
    refine ⟨by simp, .inl ⟨_, _, rfl, run_takeDeferred hK, ?_⟩⟩
    exact ⟨_, results_tmp rfl _ _ _, v, rfl, ownsRow_putObj hrow _ hK rfl, hnil, hB.trans (belowK_b (w := w) (Nat.le_refl _) W D _ _ (by simp at hD; omega) hK rfl rfl)⟩
  case stop =>
    rintro D c pre W _ _ h _
    exact h.elim
set_option maxHeartbeats 1000000 in
theorem collect_in (F : Fence) (n : Nat) (h8 : F.fn 99) (h3 : F.fn 109) (h5 : F.fn 100) (hro : F.round = none) (hn : 4 ≤ n) (Bs : Nat) (sv : Value) (zs : List Int) (hreach : zs.length * 8 ≤ 140737488351232) (w : World) (hBs : Bs < w.heap.size)
    (hc : w.cell? ⟨Bs, 0, none⟩ = some sv) (hI : Ints w.heap.size w sv zs) :
    CallsIn F n Try.prog 99 #[.func (.func 100) #[] #[.pointer (some ⟨Bs, 0, none⟩)]] w fun e W' => ∃ v, e = .returned v ∧ W'.ownsRow w.heap.size 3 1 v zs.length (zs.map (Value.int .i64)) ∧ (v = .slice none 0 0 ↔ zs = []) ∧ Below w.heap.size w W' := by
  have h1 : 1 ≤ n := by omega
  refine callsIn_of_wp Try.func99 rfl h8 ?_ hro
  simp only [Try.ntmps99, List.size_toArray, List.length_cons, List.length_nil, Nat.reduceAdd, Nat.reduceSub, Array.replicate_succ, Array.replicate_zero, List.push_toArray, List.append_toArray, List.nil_append, List.cons_append]
  gi_wp2_with (gi_at_call 109; refine (appendSeq_in F (n - 1) h3 h5 hro (by omega) Bs sv zs hreach _ hBs hc hI).mono ?_; rintro e w' ⟨v, rfl, hrow, hnil, hb⟩)
  go_ret
  exact ⟨v, rfl, hrow, hnil, hb⟩
open Go.Fw
theorem rep_of_own {M : Md → Nat → Prop} {w : World} {base : Nat} {v : Value} {zs : List Int} (h : w.ownsRow base 3 1 v zs.length (zs.map (Value.int .i64))) : ∃ f, Rep M w (.osl (.int .i64)) [v] zs f ∧ f.Nodup ∧ ∀ b ∈ f, base ≤ b ∧ b < w.heap.size := by
  rcases h.2 with ⟨rfl, h0⟩ | ⟨g, cap, cur, rfl, hb, hg, h1, h2, h3, h4⟩
  · obtain rfl := List.eq_nil_of_length_eq_zero h0
    exact ⟨[], ⟨none, 0, rfl, .inl ⟨rfl, rfl, rfl, rfl⟩⟩, by simp, by simp⟩
  · rw [Nat.mul_one] at h3 h4
    have hcell : ∀ j, j < cap → w.cell? ⟨g, j, none⟩ = some (cur[j]?.getD undef) ∧ w.frozen? ⟨g, j, none⟩ = false := fun j hj => by
      constructor <;> simp [World.cell?, World.frozen?, hg, show j < cur.size by omega]
    refine ⟨[g], ⟨some ⟨g, 0, none⟩, cap, rfl, .inr ⟨g, 0, List.replicate zs.length [], rfl, by simp, by simp, h1, fun j _ hj => ?_, fun i x f hx hf => ?_⟩⟩, by simp, fun b hb' => ?_⟩
    · obtain ⟨q1, q2⟩ := hcell j (by simpa [Ty.size] using hj)
      exact ⟨by rw [q1]; rfl, q2⟩
    · have hi : i < zs.length := (List.getElem?_eq_some_iff.1 hx).1
      obtain rfl : f = [] := by
        rw [List.getElem?_replicate] at hf
        split at hf <;> simp_all
      refine ⟨[.int .i64 x], rfl, fun j v hj => ?_, rfl, rfl⟩
      cases j with
      | succ j => simp at hj
      | zero =>
        simp only [List.getElem?_cons_zero, Option.some.injEq] at hj
        subst hj
        simp only [Ty.size, Nat.mul_one, Nat.zero_add, Nat.add_zero]
        rw [(hcell i (by omega)).1]
        have : (cur.toList.take zs.length)[i]? = (zs.map (Value.int .i64))[i]? := by rw [h4]
        rw [List.getElem?_take_of_lt hi, Array.getElem?_toList, List.getElem?_map, hx] at this
        rw [this]; rfl
    · simp only [List.mem_singleton] at hb'
      subst hb'
      exact ⟨hb, (Array.getElem?_eq_some_iff.1 hg).1⟩
theorem holds_of_rep {M : Md → Nat → Prop} {w : World} {v : Value} {zs : List Int} {f : List Nat} (h : Rep M w (.osl (.int .i64)) [v] zs f) :
    (∃ a cap, v = .slice a 0 cap ∧ zs = []) ∨ ∃ b o cap, v = .slice (some ⟨b, o, none⟩) zs.length cap ∧ zs.length ≤ cap ∧ Holds (Value.int .i64) w b o zs.toArray ∧ f = [b] := by
  obtain ⟨a, cap, hv, h⟩ := h
  simp only [List.cons.injEq, and_true] at hv
  subst hv
  rcases h with ⟨rfl, rfl, rfl, rfl⟩ | ⟨b, o, fps, rfl, rfl, h1, h2, h3, h4⟩
  · exact .inl ⟨none, 0, rfl, rfl⟩
  · right
    have hfp : fps.flatten = [] := by
      rw [List.flatten_eq_nil_iff]
      intro l hl
      obtain ⟨i, hi, rfl⟩ := List.mem_iff_getElem.1 hl
      obtain ⟨ds, _, _, hr⟩ := h4 i (zs[i]'(by omega)) fps[i] (by simp) (by simp)
      exact hr.1
    refine ⟨b, o, cap, rfl, h2, fun j hj => ?_, by rw [hfp]⟩
    have hj' : j < zs.length := by simpa using hj
    obtain ⟨ds, d1, d2, _, d3⟩ := h4 j zs[j] (fps[j]'(by omega)) (by simp) (by simp)
    subst d3
    have q1 := d2 0 _ rfl
    simp only [Ty.size, Nat.mul_one, Nat.add_zero] at q1
    exact ⟨by rw [q1]; simp [hj'], (h3 (o + j) (by omega) (by simp only [Ty.size]; omega)).2⟩
def SortOk (E : Env) (sort : List Int → Option (List Int)) : Prop := ∀ zs ys, sort zs = some ys → CallOk E 41 [.m ⟨.osl (.int .i64), zs⟩ ys] []
set_option maxRecDepth 100000 in
set_option maxHeartbeats 2000000 in
theorem sorted_in (F : Fence) (hall : ∀ f, F.fn f) (hro : F.round = none) (hcv : ∀ (m : Nat) (f : FuncId) (args : Array Value) (w : World) (R : Ending → World → Prop), Calls Try.prog f args w R → CallsIn F m Try.prog f args w R) {E : Env} (hE : E.P = Try.prog) {sort : List Int → Option (List Int)} (hs : SortOk E sort) (n : Nat) (hn : 5 ≤ n) (Bs : Nat) (sv : Value) (zs ys : List Int) (hys : sort zs = some ys) (hreach : zs.length * 8 ≤ 140737488351232) (w : World) (hBs : Bs < w.heap.size)
    (hc : w.cell? ⟨Bs, 0, none⟩ = some sv) (hI : Ints w.heap.size w sv zs) :
    CallsIn F n Try.prog 76 #[.func (.func 100) #[] #[.pointer (some ⟨Bs, 0, none⟩)]] w fun e W' => ∃ v f M, e = .returned v ∧ Rep M W' (.osl (.int .i64)) [v] ys f ∧ (∀ b ∈ f, w.heap.size ≤ b) ∧ Below w.heap.size w W' := by
  have h1 : 1 ≤ n := by omega
  have hq1 := hall 99
  have hq2 := hall 41
  refine callsIn_of_wp Try.func76 rfl (hall _) ?_ hro
  simp only [Try.ntmps76, List.size_toArray, List.length_cons, List.length_nil, Nat.reduceAdd, Nat.reduceSub, Array.replicate_succ, Array.replicate_zero, List.push_toArray, List.append_toArray, List.nil_append, List.cons_append]
  gi_wp2_with (first
    | (gi_at_call 99; refine (collect_in F (n - 1) (hall _) (hall _) (hall _) hro (by omega) Bs sv zs hreach _ hBs hc hI).mono ?_; rintro e W ⟨v, rfl, hrow, hnil, hb⟩
       obtain ⟨f, hr, hnd, hf⟩ := rep_of_own (M := md (fun _ => False) (fun _ => False)) hrow
       have hcall := hs zs ys hys W (fun _ => False) (fun _ => False) [v] [f] (fun b h => by rcases h with h | h <;> exact h.elim) ⟨⟨[v], rfl, hr⟩, trivial⟩ (by simpa using hnd) (fun b hb => ⟨fun h => h, fun h => h, (hf b (by simpa using hb)).2⟩)
       rw [hE] at hcall
       have hcall := hcv (n - 1) _ _ _ _ hcall
       clear hrow hnil)
    | (gi_at_call 41; refine hcall.mono ?_; rintro e W2 ⟨I', gs, hs2, rv, rfl, hp⟩))
  have hg : ∃ g, gs = [g] := by
    have := hp.args
    match gs, this with
    | [g], _ => exact ⟨g, rfl⟩
    | [], h => exact h.elim
    | _ :: _ :: _, h => exact h.2.elim
  obtain ⟨g, rfl⟩ := hg
  obtain ⟨cs, e1, hr2⟩ := hp.args.1
  have hl2 := hr2.len
  obtain ⟨c, rfl⟩ := List.length_eq_one_iff.1 hl2
  have e1 : v = c := e1
  subst e1
  have hrv : rv = [] := by
    have := hp.res
    match rv, this with
    | [], _ => rfl
    | _ :: _, h => exact h.elim
  subst hrv
  go_ret
  refine ⟨v, g, _, rfl, hr2, fun b hb' => ?_, ?_⟩
  · have := (hp.bl b (by simp [hb'])).2.2.2
    rcases this with h | h
    · exact Nat.le_trans hb.size h
    · exact (hf b (by simpa using h)).1
  · exact ⟨hp.os.trans hb.os, hp.tape.trans hb.tape, hp.output.trans hb.output, Nat.le_trans hb.size hp.size, fun k hk => (hp.heap k (Nat.lt_of_lt_of_le hk hb.size) (fun h => by have := (hf k (by simpa using h)).1; omega)).trans (hb.block k hk)⟩
theorem compact_of_rep {M : Md → Nat → Prop} {W : World} {B : Nat} {v : Value} {ys : List Int} {f : List Nat} (hr : Rep M W (.osl (.int .i64)) [v] ys f) (hf : ∀ b ∈ f, B ≤ b) (hl : ys.length ≤ 1000000) :
    Calls Try.prog 75 #[v] W (fun e w' => ∃ a cap, e = .returned (.slice a (Lib.compact ys).length cap) ∧ Below B W w') := by
  rcases holds_of_rep hr with ⟨a, cap, rfl, rfl⟩ | ⟨b, o, cap, rfl, hcap, hH, rfl⟩
  · refine (Any.slices_Compact_int_empty Try.laysCompact a cap W).mono ?_
    rintro e w' ⟨rfl, rfl⟩
    exact ⟨a, cap, rfl, Below.refl _ _⟩
  · refine (Any.slices_Compact_int Try.laysCompact b o cap ys W hH (by omega) hcap).mono ?_
    rintro e w' ⟨rfl, q, rfl⟩
    refine ⟨_, cap, rfl, rfl, rfl, rfl, by simp [putRow, mapBlock, Sort.ahead], fun k hk => ?_⟩
    have := hf b (by simp)
    simp [putRow, mapBlock, Sort.ahead, Array.getElem?_modify, show b ≠ k by omega]
set_option maxRecDepth 100000 in
set_option maxHeartbeats 2000000 in
theorem twice_in (F : Fence) (hall : ∀ f, F.fn f) (hro : F.round = none) (hcv : ∀ (m : Nat) (f : FuncId) (args : Array Value) (w : World) (R : Ending → World → Prop), Calls Try.prog f args w R → CallsIn F m Try.prog f args w R) {E : Env}
    (hE : E.P = Try.prog) {sort : List Int → Option (List Int)} (hs : SortOk E sort) (n : Nat) (hn : 7 ≤ n) (a : Option Addr) (len cap : Nat) (zs ys : List Int) (hys : sort zs = some ys) (hlen : zs.length = len) (hreach : zs.length ≤ 1000000) (hy : ys.length ≤ 1000000) (w : World) (hI : Ints w.heap.size w (.slice a len cap) zs) :
    CallsIn F n Try.prog 62 #[.slice a len cap] w fun e W' => e = .returned (.bool (decide ((Lib.compact ys).length < zs.length))) ∧ Below w.heap.size w W' := by
  have h1 : 1 ≤ n := by omega
  have hq1 := hall 77
  have hq2 := hall 76
  have hq3 := hall 75
  generalize hcl : (Lib.compact ys).length = cl
  refine callsIn_of_wp Try.func62 rfl (hall _) ?_ hro
  simp only [Try.ntmps62, List.size_toArray, List.length_cons, List.length_nil, Nat.reduceAdd, Nat.reduceSub, Array.replicate_succ, Array.replicate_zero, List.push_toArray, List.append_toArray, List.nil_append, List.cons_append]
  have bO := Boxed.new w 22 (.slice a len cap)
  have hB0 : Below w.heap.size w (w.alloc (.cells #[.slice a len cap] 22)) := (Below.refl _ w).alloc (Nat.le_refl _) _
  have hI0 : Ints (w.alloc (.cells #[.slice a len cap] 22)).heap.size (w.alloc (.cells #[.slice a len cap] 22)) (.slice a len cap) zs := by
    rcases hI.below hB0 with h | ⟨b, off, cap', e, hb, hc⟩
    · exact .inl h
    · exact .inr ⟨b, off, cap', e, by simp; omega, hc⟩
  have hsorted := sorted_in F hall hro hcv hE hs (n - 1) (by omega) w.heap.size (.slice a len cap) zs ys hys (by omega) _ (by simp) bO.cell hI0
  gi_wp2_with (first
    | (gi_at_call 77; refine (values_in F (n - 1) (hall _) hro a len cap w).mono ?_; rintro e w' ⟨rfl, rfl⟩)
    | (gi_at_call 76; refine hsorted.mono ?_; rintro e W ⟨v, f, M, rfl, hr, hf, hb⟩; have hcomp := hcv (n - 1) _ _ _ _ (compact_of_rep (B := w.heap.size) hr (fun b hb' => by have := hf b hb'; simp at this; omega) hy); rw [hcl] at hcomp; have X : Below w.heap.size w W := hB0.trans (hb.mono (by simp)); clear hr hf hb hsorted)
    | (gi_at_call 75; refine hcomp.mono ?_; rintro e W2 ⟨a2, cap2, rfl, hb2⟩))
  go_ret
  exact ⟨by rw [hlen]; rfl, X.trans hb2⟩
noncomputable def twFun (sort : List Int → Option (List Int)) : Fun := ⟨62, [.v (.slc .bor (.int .i64))], [.bool], fun a => (twSem sort a.1).map fun b => (b, ())⟩
theorem tw_ok {E : Env} (hE : E.P = Try.prog) {sort : List Int → Option (List Int)} (hs : SortOk E sort) : OkFun E (twFun sort) := by
  refine ⟨fun vs w => by rw [hE]; exact Try.call62 vs w, ?_⟩
  rintro ⟨zs, _⟩ b hb
  have hb2 : (twSem sort zs).map (fun b => (b, ())) = some b := hb
  obtain ⟨b0, hb0, rfl⟩ := Option.map_eq_some_iff.1 hb2
  clear hb hb2
  unfold twSem at hb0
  cases h1 : Nat.ble zs.length 1000000 with
  | false => rw [h1] at hb0; cases hb0
  | true =>
  rw [h1] at hb0
  obtain ⟨ys, hys, hb0⟩ := Option.bind_eq_some_iff.1 hb0
  cases h2 : Nat.ble ys.length 1000000 with
  | false => rw [h2] at hb0; cases hb0
  | true =>
  rw [h2] at hb0
  have hb : decide ((Lib.compact ys).length < zs.length) = b0 := Option.some.inj hb0
  subst hb
  have h1 := Nat.le_of_ble_eq_true h1
  have h2 := Nat.le_of_ble_eq_true h2
  rintro w I B vs fs hIB hargs hnd hfs
  have hargs : all3 (ArgH I B w) [.v ⟨.slc .bor (.int .i64), zs⟩] vs fs := hargs
  obtain ⟨v, f, rfl, rfl⟩ : ∃ v f, vs = [v] ∧ fs = [f] := by
    cases vs with
    | nil => exact hargs.elim
    | cons v vs =>
      cases fs with
      | nil => exact hargs.elim
      | cons f fs =>
        have h := hargs.2
        cases vs with
        | nil => cases fs with
          | nil => exact ⟨v, f, rfl, rfl⟩
          | cons => exact h.elim
        | cons => exact h.elim
  obtain ⟨⟨rfl, cs, rfl, hr⟩, _⟩ := hargs
  obtain ⟨_, a, cap, rfl, hcap, hnil, hel⟩ := hr
  have hI : Ints w.heap.size w (.slice a zs.length cap) zs := by
    rcases hel with h | ⟨b, o, rfl, hM, hx⟩
    · exact .inl ⟨a, cap, by rw [show zs = [] from h]; rfl, h⟩
    · refine .inr ⟨b, o, cap, rfl, hIB b hM, fun j hj => ?_⟩
      obtain ⟨ds, d1, d2, _, d3⟩ := hx j zs[j] (by simp [hj])
      subst d3
      have q := d2 0 _ rfl
      simp only [Ty.size, Nat.mul_one, Nat.add_zero] at q
      rw [q]; simp [hj]
  have h := twice_in Fence.wide (fun _ => trivial) rfl (fun m f args w R h => (callsIn_wide (n := m)).2 h) hE hs 10 (by omega) a zs.length cap zs ys hys rfl h1 h2 w hI
  have h := callsIn_wide.1 h
  show Calls E.P 62 #[.slice a zs.length cap] w _
  rw [hE]
  refine h.mono ?_
  rintro e w' ⟨rfl, hb⟩
  refine ⟨I, [[]], [[]], [.bool _], rfl, ⟨⟨rfl, trivial⟩, ⟨⟨[.bool _], rfl, rfl, rfl⟩, trivial⟩, by simp, by simp, fun _ h => h, fun _ h => .inl h, hb.size, hb.os, hb.tape, hb.output, fun b hb' _ => hb.block b hb'⟩⟩
end Tw
end Go.Proofs
end

section
set_option linter.all false
namespace Go.Proofs
open Go.RowKit Go.Shelf
def Try.laysGrow_ren : Go.Shelf.Ren := ⟨fun | 4 => 63 | n => n, fun | 22 => 22 | 25 => 3 | 20 => 20 | 9 => 9 | 3 => 3 | 4 => 4 | 0 => 0 | n => n, fun | n => n⟩
theorem Try.laysGrow : Lays8.n4 Try.prog Try.laysGrow_ren where
  mixed := by kernel_rfl
  f4 := ⟨Try.f63.name, by kernel_rfl, Try.func63.trans (congrArg some (by kernel_rfl))⟩
  t0 := Try.underlying0
  a0 := Try.isAgg0
  z0 := Try.sizeOf0
  v0 := Try.zeroValue0
  t3 := Try.underlying3
  a3 := Try.isAgg3
  z3 := Try.sizeOf3
  v3 := Try.zeroValue3
  t4 := Try.underlying4
  a4 := Try.isAgg4
  z4 := Try.sizeOf4
  v4 := Try.zeroValue4
  t9 := Try.underlying9
  a9 := Try.isAgg9
  z9 := Try.sizeOf9
  v9 := Try.zeroValue9
  t20 := Try.underlying20
  a20 := Try.isAgg20
  z20 := Try.sizeOf20
  v20 := Try.zeroValue20
  t22 := Try.underlying22
  a22 := Try.isAgg22
  z22 := Try.sizeOf22
  v22 := Try.zeroValue22
namespace Tw
open Go.Fw
theorem infoG : (Try.prog.info? 3).map (fun i => (i.zero, i.size, i.bytes)) = some (some (.int .i64 0), 1, 8) := by kernel_rfl
theorem gr_ok {E : Env} (hE : E.P = Try.prog) : OkFun E ⟨63, [.n, .v (.int .i64)], [.osl (.int .i64)], fun a => (grSem a.2.1).map fun r => (r, ())⟩ := by
  refine ⟨fun vs w => by rw [hE]; exact Try.call63 vs w, ?_⟩
  rintro ⟨_, n, _⟩ b hb
  have hb2 : (grSem n).map (fun r => (r, ())) = some b := hb
  obtain ⟨b0, hb0, rfl⟩ := Option.map_eq_some_iff.1 hb2
  clear hb hb2
  unfold grSem at hb0
  cases h1 : (decide (0 ≤ n) && decide (n ≤ 1000000)) with
  | false => rw [h1] at hb0; cases hb0
  | true =>
  rw [h1] at hb0
  have hb0 : ([] : List Int) = b0 := Option.some.inj hb0
  subst hb0
  simp only [Bool.and_eq_true, decide_eq_true_eq] at h1
  obtain ⟨k, rfl⟩ : ∃ k : Nat, n = (k : Int) := ⟨Int.toNat n, (Int.toNat_of_nonneg h1.1).symm⟩
  have hk6 : k ≤ 1000000 := Int.ofNat_le.1 h1.2
  clear h1
  rintro w I B vs fs hIB hargs hnd hfs
  have hargs : all3 (ArgH I B w) [.n, .v ⟨.int .i64, (k : Int)⟩] vs fs := hargs
  obtain ⟨v, u, f, f2, rfl, rfl⟩ : ∃ v u f f2, vs = [v, u] ∧ fs = [f, f2] := by
    match vs, fs, hargs with
    | [v, u], [f, f2], _ => exact ⟨v, u, f, f2, rfl, rfl⟩
    | [], _, h => cases h
    | [_], [], h => cases h
    | [_], [_], h => cases h.2
    | [_], _ :: _ :: _, h => cases h.2
    | _ :: _ :: _, [], h => cases h
    | _ :: _ :: _, [_], h => cases h.2
    | [_, _], _ :: _ :: _ :: _, h => cases h.2.2
    | _ :: _ :: _ :: _, [_, _], h => cases h.2.2
    | _ :: _ :: _ :: _, _ :: _ :: _ :: _, h => cases h.2.2
  obtain ⟨⟨rfl, rfl⟩, ⟨rfl, cs, rfl, _, rfl⟩, _⟩ := hargs
  show Calls E.P 63 #[.slice none 0 0, .int .i64 (k : Int)] w _
  rw [hE]
  rcases Nat.eq_zero_or_pos k with rfl | hk
  · refine (Any8.slices_Grow_room Try.laysGrow none 0 0 0 w (Nat.le_refl _) (by omega) (by omega) (by omega)).mono ?_
    rintro e w' ⟨rfl, rfl⟩
    exact ⟨I, [[], []], [[]], [.slice none 0 0], rfl, ⟨⟨rfl, rfl, trivial⟩, ⟨⟨[.slice none 0 0], rfl, none, 0, rfl, .inl ⟨rfl, rfl, rfl, rfl⟩⟩, trivial⟩, by simp, by simp, fun _ h => h, fun _ h => .inl h, Nat.le_refl _, rfl, rfl, rfl, fun _ _ _ => rfl⟩⟩
  · obtain ⟨i0, hi, hz0, hz1, hz2⟩ := info_parts infoG
    refine (Any8.slices_Grow_grow Try.laysGrow i0 (.int .i64 0) hi hz0 (by omega) none 0 0 k [] w (Nat.le_refl _) (by omega) (by rw [hz2]; omega) (by omega) (by simp) (fun _ => rfl) (fun a h => by cases h)).mono ?_
    rintro e w' ⟨rfl, rfl⟩
    generalize hG : grownCap w (0 + k) 0 (Try.laysGrow_ren.t 25) = G
    have hGk : 0 + k ≤ G := by rw [← hG]; exact grownCap_ge w _ _ _
    have hsz : ((#[] : Array Value) ++ Builtin.zeroCells (Value.int .i64 0).cells (0 + k - 0) ++ Builtin.zeroCells (Value.int .i64 0).cells (G - (0 + k))).size = G := by
      simp only [Array.size_append, size_zeroCells, Value.cells]
      simp
      omega
    generalize hA : ((#[] : Array Value) ++ Builtin.zeroCells (Value.int .i64 0).cells (0 + k - 0) ++ Builtin.zeroCells (Value.int .i64 0).cells (G - (0 + k))) = A at hsz
    have hgrew : Grew w (w.drew.alloc (.cells A (Try.laysGrow_ren.t 25))) := (Grew.refl w).drew.trans (.alloc _ _)
    have hnew : (w.drew.alloc (.cells A (Try.laysGrow_ren.t 25))).heap[w.heap.size]? = some (.cells A (Try.laysGrow_ren.t 25) (0, 0)) := (by show (w.drew.heap.push _)[w.heap.size]? = some _; exact (by simp [show w.drew.heap = w.heap from rfl] : (w.drew.heap.push (Obj.cells A (Try.laysGrow_ren.t 25)))[w.heap.size]? = some (Obj.cells A (Try.laysGrow_ren.t 25))))
    have hsize : (w.drew.alloc (.cells A (Try.laysGrow_ren.t 25))).heap.size = w.heap.size + 1 := by simp [World.size_alloc]
    refine ⟨I, [[], []], [[w.heap.size]], [.slice (some ⟨w.heap.size, 0, none⟩) 0 G], rfl, ⟨⟨rfl, rfl, trivial⟩, ⟨⟨[.slice (some ⟨w.heap.size, 0, none⟩) 0 G], rfl, some ⟨w.heap.size, 0, none⟩, G, rfl, .inr ⟨w.heap.size, 0, [], rfl, rfl, rfl, Nat.zero_le _, fun j _ hj => ?_, fun i x f hx hf => by simp at hf⟩⟩, trivial⟩, by simp, fun b hb => ?_, fun _ h => h, fun _ h => .inl h, hgrew.size, hgrew.os, hgrew.tape, hgrew.output, fun b hb _ => hgrew.heap b hb⟩⟩
    · have hj' : j < A.size := by simp only [Ty.size, Nat.mul_one, Nat.zero_add] at hj; omega
      constructor
      · show (World.cell? _ ⟨w.heap.size, j, none⟩).isSome = true
        unfold World.cell?
        rw [show (w.drew.alloc (.cells A (Try.laysGrow_ren.t 25))).heap[(⟨w.heap.size, j, none⟩ : Addr).block]? = some (.cells A (Try.laysGrow_ren.t 25)) from hnew]
        simp [hj']
      · show World.frozen? _ ⟨w.heap.size, j, none⟩ = false
        unfold World.frozen?
        rw [show (w.drew.alloc (.cells A (Try.laysGrow_ren.t 25))).heap[(⟨w.heap.size, j, none⟩ : Addr).block]? = some (.cells A (Try.laysGrow_ren.t 25)) from hnew]
        simp
    · have : b = w.heap.size := by simpa using hb
      subst this
      exact ⟨fun h => absurd (hIB _ (.inl h)) (Nat.lt_irrefl _), fun h => absurd (hIB _ (.inr h)) (Nat.lt_irrefl _), by rw [hsize]; omega, .inl (Nat.le_refl _)⟩
end Tw
end Go.Proofs
end

section
namespace Go.Fw
open Go.Proofs
def tt : List (Nat × Ty) := [(3, (.int .i64)), (4, .bool), (5, (.int .u8)), (9, .str), (22, (.slc .imm (.int .i64))), (25, (.slc .imm (.slc .imm (.int .i64)))), (27, (.st (.pr (.slc .imm (.slc .imm (.int .i64))) .nil))), (50, (.int .u64)), (51, (.slc .imm (.slc .imm .bool))), (52, (.slc .imm .bool)), (78, (.st (.pr (.slc .imm (.slc .imm .bool)) (.pr (.slc .imm .bool) .nil)))), (79, (.slc .imm (.slc .imm .bool))), (100, (.int .u32)), (102, (.int .u64)), (108, (.int .u64))]
noncomputable def E : Env := ⟨Try.prog, tt, tt_ok (by kernel_rfl), by kernel_rfl⟩
noncomputable def F52 : Fun := ⟨52, [.v (.slc .bor (.int .i64)), .v (.int .i64)], [.bool], d_graph_ascending⟩
theorem ok52 : OkFun E F52 :=
  OkFun.of (fn := Try.f52) (rs := [.tmp 4]) ([]) [] [] (.keep [0, 1] (.two .none (.leaf) (.two .none (.leaf) (.two .none (.two .none (.leaf) (.one (.keep [8, 9] (.loop ⟨[(5, .v (.int .i64)), (10, .v (.int .i64))], []⟩ (.xr 0 ⟨[], []⟩) (.two .none (.leaf) (.two .none (.two .none (.leaf) (.leaf)) (.two (.xr [10] ⟨[(5, .v (.int .i64))], []⟩) (.one (.two .none (.leaf) (.two (.xr [7] ⟨[], []⟩) (.two .none (.leaf) (.two .none (.two .none (.leaf) (.leaf)) (.leaf))) (.leaf)))) (.leaf)))))))) (.two .none (.leaf) (.leaf)))))) Try.func52 (by kernel_rfl) (by kernel_rfl) (by kernel_rfl) Try.call52 tbl_nil (by intro a; kernel_rfl)
noncomputable def F73 : Fun := ⟨73, [.v (.int .i64)], [.bool], d_cmp_isNaN_int⟩
theorem ok73 : OkFun E F73 :=
  OkFun.of (fn := Try.f73) (rs := [.tmp 2]) ([]) [] [] (.keep [0] (.two .none (.leaf) (.two .none (.leaf) (.leaf)))) Try.func73 (by kernel_rfl) (by kernel_rfl) (by kernel_rfl) Try.call73 tbl_nil (by intro a; kernel_rfl)
noncomputable def F84 : Fun := ⟨84, [.v (.int .i64), .v (.int .i64)], [.bool], d_cmp_Less_int⟩
theorem ok84 : OkFun E F84 :=
  OkFun.of (fn := Try.f84) (rs := [.tmp 4]) ((73, F73) :: []) [] [] (.keep [0, 1] (.two .none (.leaf) (.two .none (.leaf) (.leaf)))) Try.func84 (by kernel_rfl) (by kernel_rfl) (by kernel_rfl) Try.call84 (tbl_cons ok73 tbl_nil) (by intro a; kernel_rfl)
noncomputable def F90 : Fun := ⟨90, [.v (.int .i64)], [.bool], d_slices_isNaN_int⟩
theorem ok90 : OkFun E F90 :=
  OkFun.of (fn := Try.f90) (rs := [.tmp 2]) ([]) [] [] (.keep [0] (.two .none (.leaf) (.two .none (.leaf) (.leaf)))) Try.func90 (by kernel_rfl) (by kernel_rfl) (by kernel_rfl) Try.call90 tbl_nil (by intro a; kernel_rfl)
noncomputable def F71 : Fun := ⟨71, [.v (.slc .bor (.int .i64)), .v (.int .i64)], [(.int .i64), .bool], d_slices_BinarySearch_int_int⟩
theorem ok71 : OkFun E F71 :=
  OkFun.of (fn := Try.f71) (rs := [.tmp 4, .tmp 5]) ((90, F90) :: (84, F84) :: []) [] [] (.keep [0, 1] (.two .none (.leaf) (.two .none (.leaf) (.two .none (.leaf) (.two .none (.one (.keep [6] (.loop ⟨[(7, .v (.int .i64)), (8, .v (.int .i64))], []⟩ (.x 0 ⟨[(7, .v (.int .i64))], []⟩) (.two .none (.two .none (.leaf) (.two .none (.leaf) (.leaf))) (.one (.two .none (.leaf) (.two .none (.leaf) (.two .none (.leaf) (.leaf))))))))) (.two .none (.leaf) (.leaf))))))) Try.func71 (by kernel_rfl) (by kernel_rfl) (by kernel_rfl) Try.call71 (tbl_cons ok90 (tbl_cons ok84 tbl_nil)) (by intro a; kernel_rfl)
noncomputable def F53 : Fun := ⟨53, [.v (.st (.pr (.slc .bor (.slc .bor (.int .i64))) .nil)), .v (.int .i64), .v (.int .i64)], [.bool], d_graph_joined⟩
theorem ok53 : OkFun E F53 :=
  OkFun.of (fn := Try.f53) (rs := [.tmp 6]) ((71, F71) :: []) [(3, (.ptr .imm (.st (.pr (.slc .bor (.slc .bor (.int .i64))) .nil))))] [] (.keep [0, 1, 2] (.two .none (.leaf) (.two .none (.leaf) (.two .none (.leaf) (.leaf))))) Try.func53 (by kernel_rfl) (by kernel_rfl) (by kernel_rfl) Try.call53 (tbl_cons ok71 tbl_nil) (by intro a; kernel_rfl)
noncomputable def F32 : Fun := ⟨32, [.v (.st (.pr (.slc .bor (.slc .bor (.int .i64))) .nil))], [(.int .i64)], d_graph_Check⟩
theorem ok32 : OkFun E F32 :=
  OkFun.of (fn := Try.f32) (rs := [.tmp 2]) ((53, F53) :: (52, F52) :: []) [(1, (.ptr .imm (.st (.pr (.slc .bor (.slc .bor (.int .i64))) .nil))))] [] (.keep [0] (.two .none (.leaf) (.two .none (.leaf) (.two .none (.two .none (.leaf) (.two .none (.two .none (.leaf) (.leaf)) (.leaf))) (.two .none (.two .none (.leaf) (.one (.keep [1, 3, 16, 17] (.loop ⟨[(18, .v (.int .i64))], []⟩ (.xr 0 ⟨[], []⟩) (.two .none (.leaf) (.two .none (.two .none (.leaf) (.leaf)) (.two (.xr [18] ⟨[], []⟩) (.one (.two .none (.leaf) (.two .none (.leaf) (.two .none (.two .none (.leaf) (.leaf)) (.leaf))))) (.leaf)))))))) (.two .none (.two .none (.leaf) (.one (.keep [1, 35, 36] (.loop ⟨[(37, .v (.int .i64))], []⟩ (.xr 2 ⟨[], []⟩) (.two .none (.leaf) (.two .none (.two .none (.leaf) (.leaf)) (.two .none (.one (.two .none (.leaf) (.two .none (.leaf) (.one (.keep [6, 37, 42, 43] (.loop ⟨[(44, .v (.int .i64))], []⟩ (.xr 4 ⟨[], []⟩) (.two .none (.leaf) (.two .none (.two .none (.leaf) (.leaf)) (.two .none (.one (.two .none (.leaf) (.two .none (.leaf) (.two .none (.two .none (.leaf) (.leaf)) (.leaf))))) (.leaf)))))))))) (.leaf)))))))) (.two .none (.leaf) (.leaf)))))))) Try.func32 (by kernel_rfl) (by kernel_rfl) (by kernel_rfl) Try.call32 (tbl_cons ok53 (tbl_cons ok52 tbl_nil)) (by intro a; kernel_rfl)
noncomputable def F88 : Fun := ⟨88, [.v (.int .u64)], [(.int .i64)], d_math_bits_Len64⟩
theorem ok88 : OkFun E F88 :=
  OkFun.of (fn := Try.f88) (rs := [.tmp 2]) ([]) [] [] (.two .none (.leaf) (.two (.x [] ⟨[(0, .v (.int .u64)), (2, .v (.int .i64))], []⟩) (.two .none (.leaf) (.two .none (.two .none (.leaf) (.leaf)) (.leaf))) (.two (.x [] ⟨[(0, .v (.int .u64)), (2, .v (.int .i64))], []⟩) (.two .none (.leaf) (.two .none (.two .none (.leaf) (.leaf)) (.leaf))) (.two (.x [] ⟨[(0, .v (.int .u64)), (2, .v (.int .i64))], []⟩) (.two .none (.leaf) (.two .none (.two .none (.leaf) (.leaf)) (.leaf))) (.two .none (.leaf) (.leaf)))))) Try.func88 (by kernel_rfl) (by kernel_rfl) (by kernel_rfl) Try.call88 tbl_nil (by intro a; kernel_rfl)
noncomputable def F65 : Fun := ⟨65, [.v (.int .u64)], [(.int .i64)], d_math_bits_Len⟩
theorem ok65 : OkFun E F65 :=
  OkFun.of (fn := Try.f65) (rs := [.tmp 2]) ((88, F88) :: []) [] [] (.keep [0] (.two .none (.leaf) (.two .none (.two .none (.two .none (.leaf) (.leaf)) (.leaf)) (.two .none (.leaf) (.leaf))))) Try.func65 (by kernel_rfl) (by kernel_rfl) (by kernel_rfl) Try.call65 (tbl_cons ok88 tbl_nil) (by intro a; kernel_rfl)
noncomputable def F78 : Fun := ⟨78, [.m (.osl (.int .i64)), .v (.int .i64), .v (.int .i64)], [], d_slices_insertionSortOrdered_int⟩
theorem ok78 : OkFun E F78 :=
  OkFun.of (fn := Try.f78) (rs := []) ((84, F84) :: []) [] [] (.keep [1, 2] (.two .none (.leaf) (.one (.loop ⟨[(0, .s (.ref 0 [])), (6, .v (.int .i64))], [(0, (.osl (.int .i64)))]⟩ (.x 0 ⟨[(0, .s (.ref 0 []))], [(0, (.osl (.int .i64)))]⟩) (.two .none (.two .none (.leaf) (.two .none (.leaf) (.leaf))) (.two .none (.one (.two .none (.leaf) (.one (.keep [6] (.loop ⟨[(0, .s (.ref 0 [])), (7, .v (.int .i64))], [(0, (.osl (.int .i64)))]⟩ (.x 2 ⟨[(0, .s (.ref 0 []))], [(0, (.osl (.int .i64)))]⟩) (.two (.xr [7] ⟨[(0, .s (.ref 0 []))], [(0, (.osl (.int .i64)))]⟩) (.two .none (.draw [⟨0, [16], [7], [], [], []⟩, ⟨1, [17], [1], [], [], []⟩, ⟨2, [18], [16, 17], [0, 1], [], []⟩, ⟨3, [19], [18], [2], [], []⟩, ⟨4, [20], [0, 19], [3], [500000], []⟩, ⟨5, [21], [7, 19], [3], [], []⟩, ⟨6, [22], [20, 21, 19], [4, 5, 3], [0], []⟩, ⟨7, [23], [22, 19], [6, 3], [0], []⟩, ⟨8, [24], [0, 19], [3], [500000], []⟩, ⟨9, [25], [7, 19], [3], [], []⟩, ⟨10, [26], [25, 19], [9, 3], [], []⟩, ⟨11, [27], [24, 26, 19], [8, 10, 3], [0], []⟩, ⟨12, [28], [27, 19], [11, 3], [0], []⟩, ⟨13, [29], [23, 28, 19], [7, 12, 3, 3], [], []⟩, ⟨14, [30], [19, 29], [3, 13], [], []⟩]) (.two .none (.leaf) (.leaf))) (.two .none (.one (.draw [⟨0, [33], [0], [], [500000], []⟩, ⟨1, [34], [7], [], [], []⟩, ⟨2, [35], [0], [], [500000], []⟩, ⟨3, [36], [7], [], [], []⟩, ⟨4, [37], [36], [3], [], []⟩, ⟨5, [38], [0], [], [500000], []⟩, ⟨6, [39], [7], [], [], []⟩, ⟨7, [40], [39], [6], [], []⟩, ⟨8, [41], [38, 40], [5, 7], [0], []⟩, ⟨9, [42], [41], [8], [0], []⟩, ⟨10, [43], [0], [], [500000], []⟩, ⟨11, [44], [7], [], [], []⟩, ⟨12, [45], [43, 44], [10, 11], [0], []⟩, ⟨13, [46], [45], [12], [0], []⟩, ⟨14, [47], [33, 34], [0, 1, 0, 1, 5, 6, 7, 8, 9, 13], [0], []⟩, ⟨15, [], [47, 42], [14, 9, 0, 1, 5, 6, 7, 8, 9, 13], [0], [0]⟩, ⟨16, [48], [35, 37], [2, 4, 0, 1, 2, 3, 4, 5, 6, 7, 8, 9, 10, 11, 12, 13, 14, 15], [0], []⟩, ⟨17, [], [48, 46], [16, 13, 15, 0, 1, 2, 3, 4, 5, 6, 7, 8, 9, 10, 11, 12, 13, 14, 15], [0], [0]⟩])) (.leaf)))))))) (.leaf))))))) Try.func78 (by kernel_rfl) (by kernel_rfl) (by kernel_rfl) Try.call78 (tbl_cons ok84 tbl_nil) (by intro a; kernel_rfl)
noncomputable def F101 : Fun := ⟨101, [.m (.osl (.int .i64)), .v (.int .i64), .v (.int .i64), .v (.int .i64)], [], d_slices_siftDownOrdered_int⟩
theorem ok101 : OkFun E F101 :=
  OkFun.of (fn := Try.f101) (rs := []) ((84, F84) :: []) [] [] (.keep [1, 2, 3] (.two .none (.leaf) (.one (.loop ⟨[(0, .s (.ref 0 [])), (8, .v (.int .i64))], [(0, (.osl (.int .i64)))]⟩ (.xr 0 ⟨[(0, .s (.ref 0 []))], [(0, (.osl (.int .i64)))]⟩) (.one (.two .none (.leaf) (.two .none (.two .none (.leaf) (.two .none (.leaf) (.leaf))) (.two (.x [8] ⟨[(0, .s (.ref 0 [])), (9, .v (.int .i64))], [(0, (.osl (.int .i64)))]⟩) (.two (.x [9] ⟨[(0, .s (.ref 0 [])), (36, .v .bool)], [(0, (.osl (.int .i64)))]⟩) (.draw [⟨0, [17], [9], [], [], []⟩, ⟨1, [18], [17], [0], [], []⟩, ⟨2, [19], [2], [], [], []⟩, ⟨3, [20], [18, 19], [1, 2], [], []⟩, ⟨4, [21], [20], [3], [], []⟩, ⟨5, [22], [0, 21], [4], [500000], []⟩, ⟨6, [23], [3, 21], [4], [], []⟩, ⟨7, [24], [9, 21], [4], [], []⟩, ⟨8, [25], [23, 24, 21], [6, 7, 4], [], []⟩, ⟨9, [26], [22, 25, 21], [5, 8, 4], [0], []⟩, ⟨10, [27], [26, 21], [9, 4], [0], []⟩, ⟨11, [28], [0, 21], [4], [500000], []⟩, ⟨12, [29], [3, 21], [4], [], []⟩, ⟨13, [30], [9, 21], [4], [], []⟩, ⟨14, [31], [29, 30, 21], [12, 13, 4], [], []⟩, ⟨15, [32], [31, 21], [14, 4], [], []⟩, ⟨16, [33], [28, 32, 21], [11, 15, 4], [0], []⟩, ⟨17, [34], [33, 21], [16, 4], [0], []⟩, ⟨18, [35], [27, 34, 21], [10, 17, 4, 4], [], []⟩, ⟨19, [36], [21, 35], [4, 18], [], []⟩]) (.two .none (.leaf) (.leaf))) (.two .none (.two .none (.draw [⟨0, [39], [0], [], [500000], []⟩, ⟨1, [40], [3], [], [], []⟩, ⟨2, [41], [8], [], [], []⟩, ⟨3, [42], [40, 41], [1, 2], [], []⟩, ⟨4, [43], [39, 42], [0, 3], [0], []⟩, ⟨5, [44], [43], [4], [0], []⟩, ⟨6, [45], [0], [], [500000], []⟩, ⟨7, [46], [3], [], [], []⟩, ⟨8, [47], [9], [], [], []⟩, ⟨9, [48], [46, 47], [7, 8], [], []⟩, ⟨10, [49], [45, 48], [6, 9], [0], []⟩, ⟨11, [50], [49], [10], [0], []⟩, ⟨12, [51], [44, 50], [5, 11], [], []⟩, ⟨13, [52], [51], [12], [], []⟩]) (.two .none (.leaf) (.leaf))) (.two .none (.draw [⟨0, [53], [0], [], [500000], []⟩, ⟨1, [54], [3], [], [], []⟩, ⟨2, [55], [8], [], [], []⟩, ⟨3, [56], [54, 55], [1, 2], [], []⟩, ⟨4, [57], [0], [], [500000], []⟩, ⟨5, [58], [3], [], [], []⟩, ⟨6, [59], [9], [], [], []⟩, ⟨7, [60], [58, 59], [5, 6], [], []⟩, ⟨8, [61], [0], [], [500000], []⟩, ⟨9, [62], [3], [], [], []⟩, ⟨10, [63], [9], [], [], []⟩, ⟨11, [64], [62, 63], [9, 10], [], []⟩, ⟨12, [65], [61, 64], [8, 11], [0], []⟩, ⟨13, [66], [65], [12], [0], []⟩, ⟨14, [67], [0], [], [500000], []⟩, ⟨15, [68], [3], [], [], []⟩, ⟨16, [69], [8], [], [], []⟩, ⟨17, [70], [68, 69], [15, 16], [], []⟩, ⟨18, [71], [67, 70], [14, 17], [0], []⟩, ⟨19, [72], [71], [18], [0], []⟩, ⟨20, [73], [53, 56], [0, 3, 0, 1, 2, 3, 8, 9, 10, 11, 12, 13, 19], [0], []⟩, ⟨21, [], [73, 66], [20, 13, 0, 1, 2, 3, 8, 9, 10, 11, 12, 13, 19], [0], [0]⟩, ⟨22, [74], [57, 60], [4, 7, 0, 1, 2, 3, 4, 5, 6, 7, 8, 9, 10, 11, 12, 13, 14, 15, 16, 17, 18, 19, 20, 21], [0], []⟩, ⟨23, [], [74, 72], [22, 19, 21, 0, 1, 2, 3, 4, 5, 6, 7, 8, 9, 10, 11, 12, 13, 14, 15, 16, 17, 18, 19, 20, 21], [0], [0]⟩]) (.leaf))))))))))) Try.func101 (by kernel_rfl) (by kernel_rfl) (by kernel_rfl) Try.call101 (tbl_cons ok84 tbl_nil) (by intro a; kernel_rfl)
noncomputable def F79 : Fun := ⟨79, [.m (.osl (.int .i64)), .v (.int .i64), .v (.int .i64)], [], d_slices_heapSortOrdered_int⟩
theorem ok79 : OkFun E F79 :=
  OkFun.of (fn := Try.f79) (rs := []) ((101, F101) :: []) [] [] (.keep [1, 2] (.two .none (.leaf) (.two .none (.leaf) (.two .none (.leaf) (.two .none (.two .none (.leaf) (.one (.keep [6, 7, 8] (.loop ⟨[(0, .s (.ref 0 [])), (9, .v (.int .i64))], [(0, (.osl (.int .i64)))]⟩ (.x 0 ⟨[(0, .s (.ref 0 []))], [(0, (.osl (.int .i64)))]⟩) (.two .none (.two .none (.leaf) (.two .none (.leaf) (.leaf))) (.two .none (.one (.leaf)) (.leaf))))))) (.two .none (.leaf) (.one (.keep [6, 7] (.loop ⟨[(0, .s (.ref 0 [])), (10, .v (.int .i64))], [(0, (.osl (.int .i64)))]⟩ (.x 2 ⟨[(0, .s (.ref 0 []))], [(0, (.osl (.int .i64)))]⟩) (.two .none (.two .none (.leaf) (.two .none (.leaf) (.leaf))) (.two .none (.one (.two .none (.draw [⟨0, [33], [0], [], [500000], []⟩, ⟨1, [34], [6], [], [], []⟩, ⟨2, [35], [0], [], [500000], []⟩, ⟨3, [36], [6], [], [], []⟩, ⟨4, [37], [10], [], [], []⟩, ⟨5, [38], [36, 37], [3, 4], [], []⟩, ⟨6, [39], [0], [], [500000], []⟩, ⟨7, [40], [6], [], [], []⟩, ⟨8, [41], [10], [], [], []⟩, ⟨9, [42], [40, 41], [7, 8], [], []⟩, ⟨10, [43], [39, 42], [6, 9], [0], []⟩, ⟨11, [44], [43], [10], [0], []⟩, ⟨12, [45], [0], [], [500000], []⟩, ⟨13, [46], [6], [], [], []⟩, ⟨14, [47], [45, 46], [12, 13], [0], []⟩, ⟨15, [48], [47], [14], [0], []⟩, ⟨16, [49], [33, 34], [0, 1, 0, 1, 6, 7, 8, 9, 10, 11, 15], [0], []⟩, ⟨17, [], [49, 44], [16, 11, 0, 1, 6, 7, 8, 9, 10, 11, 15], [0], [0]⟩, ⟨18, [50], [35, 38], [2, 5, 0, 1, 2, 3, 4, 5, 6, 7, 8, 9, 10, 11, 12, 13, 14, 15, 16, 17], [0], []⟩, ⟨19, [], [50, 48], [18, 15, 17, 0, 1, 2, 3, 4, 5, 6, 7, 8, 9, 10, 11, 12, 13, 14, 15, 16, 17], [0], [0]⟩]) (.leaf))) (.leaf)))))))))))) Try.func79 (by kernel_rfl) (by kernel_rfl) (by kernel_rfl) Try.call79 (tbl_cons ok101 tbl_nil) (by intro a; kernel_rfl)
noncomputable def F102 : Fun := ⟨102, [.v (.int .i64)], [(.int .u64)], d_slices_nextPowerOfTwo⟩
theorem ok102 : OkFun E F102 :=
  OkFun.of (fn := Try.f102) (rs := [.tmp 2]) ((65, F65) :: []) [] [] (.keep [0] (.two .none (.leaf) (.two .none (.leaf) (.leaf)))) Try.func102 (by kernel_rfl) (by kernel_rfl) (by kernel_rfl) Try.call102 (tbl_cons ok65 tbl_nil) (by intro a; kernel_rfl)
noncomputable def F103 : Fun := ⟨103, [.m (.optr (.int .u64))], [(.int .u64)], d_slices_xorshift_Next⟩
theorem ok103 : OkFun E F103 :=
  OkFun.of (fn := Try.f103) (rs := [.tmp 2]) ([]) [] [] (.two .none (.leaf) (.two .none (.draw [⟨0, [3], [0], [], [500000], []⟩, ⟨1, [4], [3], [0], [0], []⟩, ⟨2, [5], [4], [1], [0], []⟩, ⟨3, [6], [0], [], [500000], []⟩, ⟨4, [7], [6], [3], [0], []⟩, ⟨5, [8], [7], [4], [0], []⟩, ⟨6, [9], [8], [5], [], []⟩, ⟨7, [10], [5, 9], [2, 6], [], []⟩, ⟨8, [11], [3], [0, 0, 1, 2, 3, 4, 5, 6, 7], [0], []⟩, ⟨9, [], [11, 10], [8, 7, 0, 1, 2, 3, 4, 5, 6, 7], [0], [0]⟩]) (.two .none (.draw [⟨0, [12], [0], [], [500000], []⟩, ⟨1, [13], [12], [0], [0], []⟩, ⟨2, [14], [13], [1], [0], []⟩, ⟨3, [15], [0], [], [500000], []⟩, ⟨4, [16], [15], [3], [0], []⟩, ⟨5, [17], [16], [4], [0], []⟩, ⟨6, [18], [17], [5], [], []⟩, ⟨7, [19], [14, 18], [2, 6], [], []⟩, ⟨8, [20], [12], [0, 0, 1, 2, 3, 4, 5, 6, 7], [0], []⟩, ⟨9, [], [20, 19], [8, 7, 0, 1, 2, 3, 4, 5, 6, 7], [0], [0]⟩]) (.two .none (.draw [⟨0, [21], [0], [], [500000], []⟩, ⟨1, [22], [21], [0], [0], []⟩, ⟨2, [23], [22], [1], [0], []⟩, ⟨3, [24], [0], [], [500000], []⟩, ⟨4, [25], [24], [3], [0], []⟩, ⟨5, [26], [25], [4], [0], []⟩, ⟨6, [27], [26], [5], [], []⟩, ⟨7, [28], [23, 27], [2, 6], [], []⟩, ⟨8, [29], [21], [0, 0, 1, 2, 3, 4, 5, 6, 7], [0], []⟩, ⟨9, [], [29, 28], [8, 7, 0, 1, 2, 3, 4, 5, 6, 7], [0], [0]⟩]) (.two .none (.leaf) (.leaf)))))) Try.func103 (by kernel_rfl) (by kernel_rfl) (by kernel_rfl) Try.call103 tbl_nil (by intro a; kernel_rfl)
noncomputable def F80 : Fun := ⟨80, [.m (.osl (.int .i64)), .v (.int .i64), .v (.int .i64)], [], d_slices_breakPatternsOrdered_int⟩
theorem ok80 : OkFun E F80 :=
  OkFun.of (fn := Try.f80) (rs := []) ((103, F103) :: (102, F102) :: []) [(7, (.int .u64))] [] (.keep [1, 2] (.two .none (.leaf) (.two .none (.leaf) (.two .none (.two .none (.leaf) (.two .none (.leaf) (.two .none (.leaf) (.one (.keep [6, 8] (.loop ⟨[(0, .s (.ref 0 [])), (7, .s (.ref 7 [])), (9, .v (.int .i64))], [(0, (.osl (.int .i64))), (7, (.optr (.int .u64)))]⟩ (.x 0 ⟨[(0, .s (.ref 0 []))], [(0, (.osl (.int .i64)))]⟩) (.two .none (.two .none (.leaf) (.two .none (.leaf) (.leaf))) (.two (.x [9] ⟨[(0, .s (.ref 0 [])), (7, .s (.ref 7 []))], [(0, (.osl (.int .i64))), (7, (.optr (.int .u64)))]⟩) (.one (.two .none (.leaf) (.two (.x [] ⟨[(0, .s (.ref 0 [])), (7, .s (.ref 7 [])), (10, .v (.int .i64))], [(0, (.osl (.int .i64))), (7, (.optr (.int .u64)))]⟩) (.two .none (.leaf) (.two .none (.leaf) (.leaf))) (.draw [⟨0, [47], [0], [], [500000], []⟩, ⟨1, [48], [9], [], [], []⟩, ⟨2, [49], [0], [], [500000], []⟩, ⟨3, [50], [1], [], [], []⟩, ⟨4, [51], [10], [], [], []⟩, ⟨5, [52], [50, 51], [3, 4], [], []⟩, ⟨6, [53], [0], [], [500000], []⟩, ⟨7, [54], [1], [], [], []⟩, ⟨8, [55], [10], [], [], []⟩, ⟨9, [56], [54, 55], [7, 8], [], []⟩, ⟨10, [57], [53, 56], [6, 9], [0], []⟩, ⟨11, [58], [57], [10], [0], []⟩, ⟨12, [59], [0], [], [500000], []⟩, ⟨13, [60], [9], [], [], []⟩, ⟨14, [61], [59, 60], [12, 13], [0], []⟩, ⟨15, [62], [61], [14], [0], []⟩, ⟨16, [63], [47, 48], [0, 1, 0, 1, 6, 7, 8, 9, 10, 11, 15], [0], []⟩, ⟨17, [], [63, 58], [16, 11, 0, 1, 6, 7, 8, 9, 10, 11, 15], [0], [0]⟩, ⟨18, [64], [49, 52], [2, 5, 0, 1, 2, 3, 4, 5, 6, 7, 8, 9, 10, 11, 12, 13, 14, 15, 16, 17], [0], []⟩, ⟨19, [], [64, 62], [18, 15, 17, 0, 1, 2, 3, 4, 5, 6, 7, 8, 9, 10, 11, 12, 13, 14, 15, 16, 17], [0], [0]⟩])))) (.leaf))))))))) (.leaf))))) Try.func80 (by kernel_rfl) (by kernel_rfl) (by kernel_rfl) Try.call80 (tbl_cons ok103 (tbl_cons ok102 tbl_nil)) (by intro a; kernel_rfl)
noncomputable def F110 : Fun := ⟨110, [.v (.slc .bor (.int .i64)), .v (.int .i64), .v (.int .i64), .m (.optr (.int .i64))], [(.int .i64), (.int .i64)], d_slices_order2Ordered_int⟩
theorem ok110 : OkFun E F110 :=
  OkFun.of (fn := Try.f110) (rs := [.tmp 8, .tmp 9]) ((84, F84) :: []) [] [] (.keep [0, 1, 2] (.two .none (.leaf) (.two .none (.two .none (.draw [⟨0, [10], [0], [], [], []⟩, ⟨1, [11], [2], [], [], []⟩, ⟨2, [12], [10, 11], [0, 1], [], []⟩, ⟨3, [13], [12], [2], [], []⟩, ⟨4, [14], [0], [], [], []⟩, ⟨5, [15], [1], [], [], []⟩, ⟨6, [16], [14, 15], [4, 5], [], []⟩, ⟨7, [17], [16], [6], [], []⟩, ⟨8, [18], [13, 17], [3, 7], [], []⟩]) (.two .none (.two .none (.leaf) (.two .none (.leaf) (.leaf))) (.leaf))) (.two .none (.leaf) (.leaf))))) Try.func110 (by kernel_rfl) (by kernel_rfl) (by kernel_rfl) Try.call110 (tbl_cons ok84 tbl_nil) (by intro a; kernel_rfl)
noncomputable def F105 : Fun := ⟨105, [.v (.slc .bor (.int .i64)), .v (.int .i64), .v (.int .i64), .v (.int .i64), .m (.optr (.int .i64))], [(.int .i64)], d_slices_medianOrdered_int⟩
theorem ok105 : OkFun E F105 :=
  OkFun.of (fn := Try.f105) (rs := [.tmp 10]) ((110, F110) :: []) [] [] (.keep [0] (.two .none (.leaf) (.two .none (.leaf) (.two .none (.leaf) (.two .none (.leaf) (.two .none (.leaf) (.leaf))))))) Try.func105 (by kernel_rfl) (by kernel_rfl) (by kernel_rfl) Try.call105 (tbl_cons ok110 tbl_nil) (by intro a; kernel_rfl)
noncomputable def F104 : Fun := ⟨104, [.v (.slc .bor (.int .i64)), .v (.int .i64), .m (.optr (.int .i64))], [(.int .i64)], d_slices_medianAdjacentOrdered_int⟩
theorem ok104 : OkFun E F104 :=
  OkFun.of (fn := Try.f104) (rs := [.tmp 6]) ((105, F105) :: []) [] [] (.keep [0, 1] (.two .none (.leaf) (.two .none (.leaf) (.leaf)))) Try.func104 (by kernel_rfl) (by kernel_rfl) (by kernel_rfl) Try.call104 (tbl_cons ok105 tbl_nil) (by intro a; kernel_rfl)
noncomputable def F81 : Fun := ⟨81, [.v (.slc .bor (.int .i64)), .v (.int .i64), .v (.int .i64)], [(.int .i64), (.int .i64)], d_slices_choosePivotOrdered_int⟩
theorem ok81 : OkFun E F81 :=
  OkFun.of (fn := Try.f81) (rs := [.tmp 6, .tmp 7]) ((105, F105) :: (104, F104) :: []) [(9, (.int .i64))] [] (.keep [0, 1, 2] (.two .none (.leaf) (.two .none (.leaf) (.two .none (.leaf) (.two .none (.leaf) (.two .none (.leaf) (.two .none (.leaf) (.two (.x [] ⟨[(9, .s (.ref 9 [])), (11, .v (.int .i64))], [(9, (.optr (.int .i64)))]⟩) (.two .none (.leaf) (.two .none (.two (.x [] ⟨[(9, .s (.ref 9 [])), (10, .v (.int .i64)), (11, .v (.int .i64)), (12, .v (.int .i64))], [(9, (.optr (.int .i64)))]⟩) (.two .none (.leaf) (.two .none (.two .none (.leaf) (.two .none (.leaf) (.leaf))) (.leaf))) (.leaf)) (.leaf))) (.two .none (.leaf) (.one (.two .none (.leaf) (.two .none (.two .none (.leaf) (.leaf)) (.two .none (.leaf) (.two .none (.two .none (.leaf) (.leaf)) (.two .none (.leaf) (.leaf)))))))))))))))) Try.func81 (by kernel_rfl) (by kernel_rfl) (by kernel_rfl) Try.call81 (tbl_cons ok105 (tbl_cons ok104 tbl_nil)) (by intro a; kernel_rfl)
noncomputable def F82 : Fun := ⟨82, [.m (.osl (.int .i64)), .v (.int .i64), .v (.int .i64)], [], d_slices_reverseRangeOrdered_int⟩
theorem ok82 : OkFun E F82 :=
  OkFun.of (fn := Try.f82) (rs := []) ([]) [] [] (.keep [1, 2] (.two .none (.leaf) (.two .none (.leaf) (.one (.loop ⟨[(0, .s (.ref 0 [])), (6, .v (.int .i64)), (7, .v (.int .i64))], [(0, (.osl (.int .i64)))]⟩ (.x 0 ⟨[(0, .s (.ref 0 []))], [(0, (.osl (.int .i64)))]⟩) (.two .none (.two .none (.leaf) (.two .none (.leaf) (.leaf))) (.one (.two .none (.draw [⟨0, [14], [0], [], [500000], []⟩, ⟨1, [15], [6], [], [], []⟩, ⟨2, [16], [0], [], [500000], []⟩, ⟨3, [17], [7], [], [], []⟩, ⟨4, [18], [0], [], [500000], []⟩, ⟨5, [19], [7], [], [], []⟩, ⟨6, [20], [18, 19], [4, 5], [0], []⟩, ⟨7, [21], [20], [6], [0], []⟩, ⟨8, [22], [0], [], [500000], []⟩, ⟨9, [23], [6], [], [], []⟩, ⟨10, [24], [22, 23], [8, 9], [0], []⟩, ⟨11, [25], [24], [10], [0], []⟩, ⟨12, [26], [14, 15], [0, 1, 0, 1, 4, 5, 6, 7, 11], [0], []⟩, ⟨13, [], [26, 21], [12, 7, 0, 1, 4, 5, 6, 7, 11], [0], [0]⟩, ⟨14, [27], [16, 17], [2, 3, 0, 1, 2, 3, 4, 5, 6, 7, 8, 9, 10, 11, 12, 13], [0], []⟩, ⟨15, [], [27, 25], [14, 11, 13, 0, 1, 2, 3, 4, 5, 6, 7, 8, 9, 10, 11, 12, 13], [0], [0]⟩]) (.two .none (.leaf) (.leaf)))))))))) Try.func82 (by kernel_rfl) (by kernel_rfl) (by kernel_rfl) Try.call82 tbl_nil (by intro a; kernel_rfl)
noncomputable def F83 : Fun := ⟨83, [.m (.osl (.int .i64)), .v (.int .i64), .v (.int .i64)], [.bool], d_slices_partialInsertionSortOrdered_int⟩
theorem ok83 : OkFun E F83 :=
  OkFun.of (fn := Try.f83) (rs := [.tmp 6]) ((84, F84) :: []) [] [] (.keep [1, 2] (.two .none (.leaf) (.two .none (.leaf) (.two .none (.two .none (.leaf) (.one (.loop ⟨[(0, .s (.ref 0 [])), (7, .v (.int .i64)), (8, .v (.int .i64))], [(0, (.osl (.int .i64)))]⟩ (.xr 0 ⟨[(0, .s (.ref 0 []))], [(0, (.osl (.int .i64)))]⟩) (.two .none (.two .none (.leaf) (.two .none (.leaf) (.leaf))) (.two (.xr [8] ⟨[(0, .s (.ref 0 [])), (7, .v (.int .i64))], [(0, (.osl (.int .i64)))]⟩) (.one (.two .none (.one (.loop ⟨[(0, .s (.ref 0 [])), (7, .v (.int .i64))], [(0, (.osl (.int .i64)))]⟩ (.x 2 ⟨[(0, .s (.ref 0 [])), (7, .v (.int .i64))], [(0, (.osl (.int .i64)))]⟩) (.two (.xr [7] ⟨[(0, .s (.ref 0 []))], [(0, (.osl (.int .i64)))]⟩) (.two .none (.draw [⟨0, [17], [7], [], [], []⟩, ⟨1, [18], [2], [], [], []⟩, ⟨2, [19], [17, 18], [0, 1], [], []⟩, ⟨3, [20], [19], [2], [], []⟩, ⟨4, [21], [0, 20], [3], [500000], []⟩, ⟨5, [22], [7, 20], [3], [], []⟩, ⟨6, [23], [21, 22, 20], [4, 5, 3], [0], []⟩, ⟨7, [24], [23, 20], [6, 3], [0], []⟩, ⟨8, [25], [0, 20], [3], [500000], []⟩, ⟨9, [26], [7, 20], [3], [], []⟩, ⟨10, [27], [26, 20], [9, 3], [], []⟩, ⟨11, [28], [25, 27, 20], [8, 10, 3], [0], []⟩, ⟨12, [29], [28, 20], [11, 3], [0], []⟩, ⟨13, [30], [24, 29, 20], [7, 12, 3, 3], [], []⟩, ⟨14, [31], [30, 20], [13, 3], [], []⟩, ⟨15, [32], [20, 31], [3, 14], [], []⟩]) (.two .none (.leaf) (.leaf))) (.one (.leaf))))) (.two .none (.two .none (.leaf) (.two .none (.two .none (.leaf) (.leaf)) (.leaf))) (.two .none (.two .none (.leaf) (.two .none (.two .none (.leaf) (.leaf)) (.leaf))) (.two .none (.draw [⟨0, [42], [0], [], [500000], []⟩, ⟨1, [43], [7], [], [], []⟩, ⟨2, [44], [0], [], [500000], []⟩, ⟨3, [45], [7], [], [], []⟩, ⟨4, [46], [45], [3], [], []⟩, ⟨5, [47], [0], [], [500000], []⟩, ⟨6, [48], [7], [], [], []⟩, ⟨7, [49], [48], [6], [], []⟩, ⟨8, [50], [47, 49], [5, 7], [0], []⟩, ⟨9, [51], [50], [8], [0], []⟩, ⟨10, [52], [0], [], [500000], []⟩, ⟨11, [53], [7], [], [], []⟩, ⟨12, [54], [52, 53], [10, 11], [0], []⟩, ⟨13, [55], [54], [12], [0], []⟩, ⟨14, [56], [42, 43], [0, 1, 0, 1, 5, 6, 7, 8, 9, 13], [0], []⟩, ⟨15, [], [56, 51], [14, 9, 0, 1, 5, 6, 7, 8, 9, 13], [0], [0]⟩, ⟨16, [57], [44, 46], [2, 4, 0, 1, 2, 3, 4, 5, 6, 7, 8, 9, 10, 11, 12, 13, 14, 15], [0], []⟩, ⟨17, [], [57, 55], [16, 13, 15, 0, 1, 2, 3, 4, 5, 6, 7, 8, 9, 10, 11, 12, 13, 14, 15], [0], [0]⟩]) (.two (.x [7] ⟨[(0, .s (.ref 0 []))], [(0, (.osl (.int .i64)))]⟩) (.two .none (.leaf) (.two .none (.two .none (.leaf) (.one (.loop ⟨[(0, .s (.ref 0 [])), (9, .v (.int .i64))], [(0, (.osl (.int .i64)))]⟩ (.x 4 ⟨[(0, .s (.ref 0 []))], [(0, (.osl (.int .i64)))]⟩) (.two .none (.two .none (.leaf) (.two .none (.leaf) (.leaf))) (.two .none (.one (.two .none (.two .none (.draw [⟨0, [68], [0], [], [500000], []⟩, ⟨1, [69], [9], [], [], []⟩, ⟨2, [70], [68, 69], [0, 1], [0], []⟩, ⟨3, [71], [70], [2], [0], []⟩, ⟨4, [72], [0], [], [500000], []⟩, ⟨5, [73], [9], [], [], []⟩, ⟨6, [74], [73], [5], [], []⟩, ⟨7, [75], [72, 74], [4, 6], [0], []⟩, ⟨8, [76], [75], [7], [0], []⟩, ⟨9, [77], [71, 76], [3, 8], [], []⟩, ⟨10, [78], [77], [9], [], []⟩]) (.two .none (.leaf) (.leaf))) (.draw [⟨0, [79], [0], [], [500000], []⟩, ⟨1, [80], [9], [], [], []⟩, ⟨2, [81], [0], [], [500000], []⟩, ⟨3, [82], [9], [], [], []⟩, ⟨4, [83], [82], [3], [], []⟩, ⟨5, [84], [0], [], [500000], []⟩, ⟨6, [85], [9], [], [], []⟩, ⟨7, [86], [85], [6], [], []⟩, ⟨8, [87], [84, 86], [5, 7], [0], []⟩, ⟨9, [88], [87], [8], [0], []⟩, ⟨10, [89], [0], [], [500000], []⟩, ⟨11, [90], [9], [], [], []⟩, ⟨12, [91], [89, 90], [10, 11], [0], []⟩, ⟨13, [92], [91], [12], [0], []⟩, ⟨14, [93], [79, 80], [0, 1, 0, 1, 5, 6, 7, 8, 9, 13], [0], []⟩, ⟨15, [], [93, 88], [14, 9, 0, 1, 5, 6, 7, 8, 9, 13], [0], [0]⟩, ⟨16, [94], [81, 83], [2, 4, 0, 1, 2, 3, 4, 5, 6, 7, 8, 9, 10, 11, 12, 13, 14, 15], [0], []⟩, ⟨17, [], [94, 92], [16, 13, 15, 0, 1, 2, 3, 4, 5, 6, 7, 8, 9, 10, 11, 12, 13, 14, 15], [0], [0]⟩]))) (.leaf)))))) (.leaf))) (.two .none (.leaf) (.two .none (.two .none (.leaf) (.one (.keep [7] (.loop ⟨[(0, .s (.ref 0 [])), (10, .v (.int .i64))], [(0, (.osl (.int .i64)))]⟩ (.x 6 ⟨[(0, .s (.ref 0 []))], [(0, (.osl (.int .i64)))]⟩) (.two .none (.two .none (.leaf) (.two .none (.leaf) (.leaf))) (.two .none (.one (.two .none (.two .none (.draw [⟨0, [106], [0], [], [500000], []⟩, ⟨1, [107], [10], [], [], []⟩, ⟨2, [108], [106, 107], [0, 1], [0], []⟩, ⟨3, [109], [108], [2], [0], []⟩, ⟨4, [110], [0], [], [500000], []⟩, ⟨5, [111], [10], [], [], []⟩, ⟨6, [112], [111], [5], [], []⟩, ⟨7, [113], [110, 112], [4, 6], [0], []⟩, ⟨8, [114], [113], [7], [0], []⟩, ⟨9, [115], [109, 114], [3, 8], [], []⟩, ⟨10, [116], [115], [9], [], []⟩]) (.two .none (.leaf) (.leaf))) (.draw [⟨0, [117], [0], [], [500000], []⟩, ⟨1, [118], [10], [], [], []⟩, ⟨2, [119], [0], [], [500000], []⟩, ⟨3, [120], [10], [], [], []⟩, ⟨4, [121], [120], [3], [], []⟩, ⟨5, [122], [0], [], [500000], []⟩, ⟨6, [123], [10], [], [], []⟩, ⟨7, [124], [123], [6], [], []⟩, ⟨8, [125], [122, 124], [5, 7], [0], []⟩, ⟨9, [126], [125], [8], [0], []⟩, ⟨10, [127], [0], [], [500000], []⟩, ⟨11, [128], [10], [], [], []⟩, ⟨12, [129], [127, 128], [10, 11], [0], []⟩, ⟨13, [130], [129], [12], [0], []⟩, ⟨14, [131], [117, 118], [0, 1, 0, 1, 5, 6, 7, 8, 9, 13], [0], []⟩, ⟨15, [], [131, 126], [14, 9, 0, 1, 5, 6, 7, 8, 9, 13], [0], [0]⟩, ⟨16, [132], [119, 121], [2, 4, 0, 1, 2, 3, 4, 5, 6, 7, 8, 9, 10, 11, 12, 13, 14, 15], [0], []⟩, ⟨17, [], [132, 130], [16, 13, 15, 0, 1, 2, 3, 4, 5, 6, 7, 8, 9, 10, 11, 12, 13, 14, 15], [0], [0]⟩]))) (.leaf))))))) (.leaf))))))))) (.leaf)))))) (.two .none (.leaf) (.leaf)))))) Try.func83 (by kernel_rfl) (by kernel_rfl) (by kernel_rfl) Try.call83 (tbl_cons ok84 tbl_nil) (by intro a; kernel_rfl)
noncomputable def F85 : Fun := ⟨85, [.m (.osl (.int .i64)), .v (.int .i64), .v (.int .i64), .v (.int .i64)], [(.int .i64)], d_slices_partitionEqualOrdered_int⟩
theorem ok85 : OkFun E F85 :=
  OkFun.of (fn := Try.f85) (rs := [.tmp 8]) ((84, F84) :: []) [] [] (.keep [1, 2, 3] (.two .none (.leaf) (.two .none (.draw [⟨0, [11], [0], [], [500000], []⟩, ⟨1, [12], [1], [], [], []⟩, ⟨2, [13], [0], [], [500000], []⟩, ⟨3, [14], [3], [], [], []⟩, ⟨4, [15], [0], [], [500000], []⟩, ⟨5, [16], [3], [], [], []⟩, ⟨6, [17], [15, 16], [4, 5], [0], []⟩, ⟨7, [18], [17], [6], [0], []⟩, ⟨8, [19], [0], [], [500000], []⟩, ⟨9, [20], [1], [], [], []⟩, ⟨10, [21], [19, 20], [8, 9], [0], []⟩, ⟨11, [22], [21], [10], [0], []⟩, ⟨12, [23], [11, 12], [0, 1, 0, 1, 4, 5, 6, 7, 11], [0], []⟩, ⟨13, [], [23, 18], [12, 7, 0, 1, 4, 5, 6, 7, 11], [0], [0]⟩, ⟨14, [24], [13, 14], [2, 3, 0, 1, 2, 3, 4, 5, 6, 7, 8, 9, 10, 11, 12, 13], [0], []⟩, ⟨15, [], [24, 22], [14, 11, 13, 0, 1, 2, 3, 4, 5, 6, 7, 8, 9, 10, 11, 12, 13], [0], [0]⟩]) (.two .none (.leaf) (.two .none (.one (.loop ⟨[(0, .s (.ref 0 [])), (9, .v (.int .i64)), (10, .v (.int .i64))], [(0, (.osl (.int .i64)))]⟩ (.x 0 ⟨[(0, .s (.ref 0 [])), (9, .v (.int .i64))], [(0, (.osl (.int .i64)))]⟩) (.one (.two .none (.one (.keep [10] (.loop ⟨[(0, .s (.ref 0 [])), (9, .v (.int .i64))], [(0, (.osl (.int .i64)))]⟩ (.x 2 ⟨[(0, .s (.ref 0 [])), (9, .v (.int .i64))], [(0, (.osl (.int .i64)))]⟩) (.two (.xr [9] ⟨[(0, .s (.ref 0 []))], [(0, (.osl (.int .i64)))]⟩) (.two .none (.draw [⟨0, [29], [9], [], [], []⟩, ⟨1, [30], [10], [], [], []⟩, ⟨2, [31], [29, 30], [0, 1], [], []⟩, ⟨3, [32], [31], [2], [], []⟩, ⟨4, [33], [0, 32], [3], [500000], []⟩, ⟨5, [34], [1, 32], [3], [], []⟩, ⟨6, [35], [33, 34, 32], [4, 5, 3], [0], []⟩, ⟨7, [36], [35, 32], [6, 3], [0], []⟩, ⟨8, [37], [0, 32], [3], [500000], []⟩, ⟨9, [38], [9, 32], [3], [], []⟩, ⟨10, [39], [37, 38, 32], [8, 9, 3], [0], []⟩, ⟨11, [40], [39, 32], [10, 3], [0], []⟩, ⟨12, [41], [36, 40, 32], [7, 11, 3, 3], [], []⟩, ⟨13, [42], [41, 32], [12, 3], [], []⟩, ⟨14, [43], [32, 42], [3, 13], [], []⟩]) (.two .none (.leaf) (.leaf))) (.one (.leaf)))))) (.two .none (.one (.keep [9] (.loop ⟨[(0, .s (.ref 0 [])), (10, .v (.int .i64))], [(0, (.osl (.int .i64)))]⟩ (.x 4 ⟨[(0, .s (.ref 0 [])), (10, .v (.int .i64))], [(0, (.osl (.int .i64)))]⟩) (.two (.xr [10] ⟨[(0, .s (.ref 0 []))], [(0, (.osl (.int .i64)))]⟩) (.two .none (.draw [⟨0, [46], [9], [], [], []⟩, ⟨1, [47], [10], [], [], []⟩, ⟨2, [48], [46, 47], [0, 1], [], []⟩, ⟨3, [49], [48], [2], [], []⟩, ⟨4, [50], [0, 49], [3], [500000], []⟩, ⟨5, [51], [1, 49], [3], [], []⟩, ⟨6, [52], [50, 51, 49], [4, 5, 3], [0], []⟩, ⟨7, [53], [52, 49], [6, 3], [0], []⟩, ⟨8, [54], [0, 49], [3], [500000], []⟩, ⟨9, [55], [10, 49], [3], [], []⟩, ⟨10, [56], [54, 55, 49], [8, 9, 3], [0], []⟩, ⟨11, [57], [56, 49], [10, 3], [0], []⟩, ⟨12, [58], [53, 57, 49], [7, 11, 3, 3], [], []⟩, ⟨13, [59], [49, 58], [3, 12], [], []⟩]) (.two .none (.leaf) (.leaf))) (.one (.leaf)))))) (.two .none (.two .none (.leaf) (.two .none (.leaf) (.leaf))) (.two .none (.draw [⟨0, [65], [0], [], [500000], []⟩, ⟨1, [66], [9], [], [], []⟩, ⟨2, [67], [0], [], [500000], []⟩, ⟨3, [68], [10], [], [], []⟩, ⟨4, [69], [0], [], [500000], []⟩, ⟨5, [70], [10], [], [], []⟩, ⟨6, [71], [69, 70], [4, 5], [0], []⟩, ⟨7, [72], [71], [6], [0], []⟩, ⟨8, [73], [0], [], [500000], []⟩, ⟨9, [74], [9], [], [], []⟩, ⟨10, [75], [73, 74], [8, 9], [0], []⟩, ⟨11, [76], [75], [10], [0], []⟩, ⟨12, [77], [65, 66], [0, 1, 0, 1, 4, 5, 6, 7, 11], [0], []⟩, ⟨13, [], [77, 72], [12, 7, 0, 1, 4, 5, 6, 7, 11], [0], [0]⟩, ⟨14, [78], [67, 68], [2, 3, 0, 1, 2, 3, 4, 5, 6, 7, 8, 9, 10, 11, 12, 13], [0], []⟩, ⟨15, [], [78, 76], [14, 11, 13, 0, 1, 2, 3, 4, 5, 6, 7, 8, 9, 10, 11, 12, 13], [0], [0]⟩]) (.two .none (.leaf) (.leaf))))))))) (.two .none (.leaf) (.leaf))))))) Try.func85 (by kernel_rfl) (by kernel_rfl) (by kernel_rfl) Try.call85 (tbl_cons ok84 tbl_nil) (by intro a; kernel_rfl)
noncomputable def F86 : Fun := ⟨86, [.m (.osl (.int .i64)), .v (.int .i64), .v (.int .i64), .v (.int .i64)], [(.int .i64), .bool], d_slices_partitionOrdered_int⟩
theorem ok86 : OkFun E F86 :=
  OkFun.of (fn := Try.f86) (rs := [.tmp 8, .tmp 9]) ((84, F84) :: []) [] [] (.keep [1, 2, 3] (.two .none (.leaf) (.two .none (.draw [⟨0, [12], [0], [], [500000], []⟩, ⟨1, [13], [1], [], [], []⟩, ⟨2, [14], [0], [], [500000], []⟩, ⟨3, [15], [3], [], [], []⟩, ⟨4, [16], [0], [], [500000], []⟩, ⟨5, [17], [3], [], [], []⟩, ⟨6, [18], [16, 17], [4, 5], [0], []⟩, ⟨7, [19], [18], [6], [0], []⟩, ⟨8, [20], [0], [], [500000], []⟩, ⟨9, [21], [1], [], [], []⟩, ⟨10, [22], [20, 21], [8, 9], [0], []⟩, ⟨11, [23], [22], [10], [0], []⟩, ⟨12, [24], [12, 13], [0, 1, 0, 1, 4, 5, 6, 7, 11], [0], []⟩, ⟨13, [], [24, 19], [12, 7, 0, 1, 4, 5, 6, 7, 11], [0], [0]⟩, ⟨14, [25], [14, 15], [2, 3, 0, 1, 2, 3, 4, 5, 6, 7, 8, 9, 10, 11, 12, 13], [0], []⟩, ⟨15, [], [25, 23], [14, 11, 13, 0, 1, 2, 3, 4, 5, 6, 7, 8, 9, 10, 11, 12, 13], [0], [0]⟩]) (.two .none (.leaf) (.two .none (.one (.keep [11] (.loop ⟨[(0, .s (.ref 0 [])), (10, .v (.int .i64))], [(0, (.osl (.int .i64)))]⟩ (.x 0 ⟨[(0, .s (.ref 0 [])), (10, .v (.int .i64))], [(0, (.osl (.int .i64)))]⟩) (.two (.xr [10] ⟨[(0, .s (.ref 0 []))], [(0, (.osl (.int .i64)))]⟩) (.two .none (.draw [⟨0, [30], [10], [], [], []⟩, ⟨1, [31], [11], [], [], []⟩, ⟨2, [32], [30, 31], [0, 1], [], []⟩, ⟨3, [33], [32], [2], [], []⟩, ⟨4, [34], [0, 33], [3], [500000], []⟩, ⟨5, [35], [10, 33], [3], [], []⟩, ⟨6, [36], [34, 35, 33], [4, 5, 3], [0], []⟩, ⟨7, [37], [36, 33], [6, 3], [0], []⟩, ⟨8, [38], [0, 33], [3], [500000], []⟩, ⟨9, [39], [1, 33], [3], [], []⟩, ⟨10, [40], [38, 39, 33], [8, 9, 3], [0], []⟩, ⟨11, [41], [40, 33], [10, 3], [0], []⟩, ⟨12, [42], [37, 41, 33], [7, 11, 3, 3], [], []⟩, ⟨13, [43], [33, 42], [3, 12], [], []⟩]) (.two .none (.leaf) (.leaf))) (.one (.leaf)))))) (.two .none (.one (.keep [10] (.loop ⟨[(0, .s (.ref 0 [])), (11, .v (.int .i64))], [(0, (.osl (.int .i64)))]⟩ (.x 2 ⟨[(0, .s (.ref 0 [])), (11, .v (.int .i64))], [(0, (.osl (.int .i64)))]⟩) (.two (.xr [11] ⟨[(0, .s (.ref 0 []))], [(0, (.osl (.int .i64)))]⟩) (.two .none (.draw [⟨0, [46], [10], [], [], []⟩, ⟨1, [47], [11], [], [], []⟩, ⟨2, [48], [46, 47], [0, 1], [], []⟩, ⟨3, [49], [48], [2], [], []⟩, ⟨4, [50], [0, 49], [3], [500000], []⟩, ⟨5, [51], [11, 49], [3], [], []⟩, ⟨6, [52], [50, 51, 49], [4, 5, 3], [0], []⟩, ⟨7, [53], [52, 49], [6, 3], [0], []⟩, ⟨8, [54], [0, 49], [3], [500000], []⟩, ⟨9, [55], [1, 49], [3], [], []⟩, ⟨10, [56], [54, 55, 49], [8, 9, 3], [0], []⟩, ⟨11, [57], [56, 49], [10, 3], [0], []⟩, ⟨12, [58], [53, 57, 49], [7, 11, 3, 3], [], []⟩, ⟨13, [59], [58, 49], [12, 3], [], []⟩, ⟨14, [60], [49, 59], [3, 13], [], []⟩]) (.two .none (.leaf) (.leaf))) (.one (.leaf)))))) (.two .none (.two .none (.leaf) (.two .none (.two .none (.draw [⟨0, [66], [0], [], [500000], []⟩, ⟨1, [67], [11], [], [], []⟩, ⟨2, [68], [0], [], [500000], []⟩, ⟨3, [69], [1], [], [], []⟩, ⟨4, [70], [0], [], [500000], []⟩, ⟨5, [71], [1], [], [], []⟩, ⟨6, [72], [70, 71], [4, 5], [0], []⟩, ⟨7, [73], [72], [6], [0], []⟩, ⟨8, [74], [0], [], [500000], []⟩, ⟨9, [75], [11], [], [], []⟩, ⟨10, [76], [74, 75], [8, 9], [0], []⟩, ⟨11, [77], [76], [10], [0], []⟩, ⟨12, [78], [66, 67], [0, 1, 0, 1, 4, 5, 6, 7, 11], [0], []⟩, ⟨13, [], [78, 73], [12, 7, 0, 1, 4, 5, 6, 7, 11], [0], [0]⟩, ⟨14, [79], [68, 69], [2, 3, 0, 1, 2, 3, 4, 5, 6, 7, 8, 9, 10, 11, 12, 13], [0], []⟩, ⟨15, [], [79, 77], [14, 11, 13, 0, 1, 2, 3, 4, 5, 6, 7, 8, 9, 10, 11, 12, 13], [0], [0]⟩]) (.two .none (.leaf) (.leaf))) (.leaf))) (.two .none (.draw [⟨0, [81], [0], [], [500000], []⟩, ⟨1, [82], [10], [], [], []⟩, ⟨2, [83], [0], [], [500000], []⟩, ⟨3, [84], [11], [], [], []⟩, ⟨4, [85], [0], [], [500000], []⟩, ⟨5, [86], [11], [], [], []⟩, ⟨6, [87], [85, 86], [4, 5], [0], []⟩, ⟨7, [88], [87], [6], [0], []⟩, ⟨8, [89], [0], [], [500000], []⟩, ⟨9, [90], [10], [], [], []⟩, ⟨10, [91], [89, 90], [8, 9], [0], []⟩, ⟨11, [92], [91], [10], [0], []⟩, ⟨12, [93], [81, 82], [0, 1, 0, 1, 4, 5, 6, 7, 11], [0], []⟩, ⟨13, [], [93, 88], [12, 7, 0, 1, 4, 5, 6, 7, 11], [0], [0]⟩, ⟨14, [94], [83, 84], [2, 3, 0, 1, 2, 3, 4, 5, 6, 7, 8, 9, 10, 11, 12, 13], [0], []⟩, ⟨15, [], [94, 92], [14, 11, 13, 0, 1, 2, 3, 4, 5, 6, 7, 8, 9, 10, 11, 12, 13], [0], [0]⟩]) (.two .none (.leaf) (.two .none (.leaf) (.two .none (.one (.loop ⟨[(0, .s (.ref 0 [])), (10, .v (.int .i64)), (11, .v (.int .i64))], [(0, (.osl (.int .i64)))]⟩ (.x 4 ⟨[(0, .s (.ref 0 [])), (11, .v (.int .i64))], [(0, (.osl (.int .i64)))]⟩) (.one (.two .none (.one (.keep [11] (.loop ⟨[(0, .s (.ref 0 [])), (10, .v (.int .i64))], [(0, (.osl (.int .i64)))]⟩ (.x 6 ⟨[(0, .s (.ref 0 [])), (10, .v (.int .i64))], [(0, (.osl (.int .i64)))]⟩) (.two (.xr [10] ⟨[(0, .s (.ref 0 []))], [(0, (.osl (.int .i64)))]⟩) (.two .none (.draw [⟨0, [99], [10], [], [], []⟩, ⟨1, [100], [11], [], [], []⟩, ⟨2, [101], [99, 100], [0, 1], [], []⟩, ⟨3, [102], [101], [2], [], []⟩, ⟨4, [103], [0, 102], [3], [500000], []⟩, ⟨5, [104], [10, 102], [3], [], []⟩, ⟨6, [105], [103, 104, 102], [4, 5, 3], [0], []⟩, ⟨7, [106], [105, 102], [6, 3], [0], []⟩, ⟨8, [107], [0, 102], [3], [500000], []⟩, ⟨9, [108], [1, 102], [3], [], []⟩, ⟨10, [109], [107, 108, 102], [8, 9, 3], [0], []⟩, ⟨11, [110], [109, 102], [10, 3], [0], []⟩, ⟨12, [111], [106, 110, 102], [7, 11, 3, 3], [], []⟩, ⟨13, [112], [102, 111], [3, 12], [], []⟩]) (.two .none (.leaf) (.leaf))) (.one (.leaf)))))) (.two .none (.one (.keep [10] (.loop ⟨[(0, .s (.ref 0 [])), (11, .v (.int .i64))], [(0, (.osl (.int .i64)))]⟩ (.x 8 ⟨[(0, .s (.ref 0 [])), (11, .v (.int .i64))], [(0, (.osl (.int .i64)))]⟩) (.two (.xr [11] ⟨[(0, .s (.ref 0 []))], [(0, (.osl (.int .i64)))]⟩) (.two .none (.draw [⟨0, [115], [10], [], [], []⟩, ⟨1, [116], [11], [], [], []⟩, ⟨2, [117], [115, 116], [0, 1], [], []⟩, ⟨3, [118], [117], [2], [], []⟩, ⟨4, [119], [0, 118], [3], [500000], []⟩, ⟨5, [120], [11, 118], [3], [], []⟩, ⟨6, [121], [119, 120, 118], [4, 5, 3], [0], []⟩, ⟨7, [122], [121, 118], [6, 3], [0], []⟩, ⟨8, [123], [0, 118], [3], [500000], []⟩, ⟨9, [124], [1, 118], [3], [], []⟩, ⟨10, [125], [123, 124, 118], [8, 9, 3], [0], []⟩, ⟨11, [126], [125, 118], [10, 3], [0], []⟩, ⟨12, [127], [122, 126, 118], [7, 11, 3, 3], [], []⟩, ⟨13, [128], [127, 118], [12, 3], [], []⟩, ⟨14, [129], [118, 128], [3, 13], [], []⟩]) (.two .none (.leaf) (.leaf))) (.one (.leaf)))))) (.two .none (.two .none (.leaf) (.two .none (.leaf) (.leaf))) (.two .none (.draw [⟨0, [135], [0], [], [500000], []⟩, ⟨1, [136], [10], [], [], []⟩, ⟨2, [137], [0], [], [500000], []⟩, ⟨3, [138], [11], [], [], []⟩, ⟨4, [139], [0], [], [500000], []⟩, ⟨5, [140], [11], [], [], []⟩, ⟨6, [141], [139, 140], [4, 5], [0], []⟩, ⟨7, [142], [141], [6], [0], []⟩, ⟨8, [143], [0], [], [500000], []⟩, ⟨9, [144], [10], [], [], []⟩, ⟨10, [145], [143, 144], [8, 9], [0], []⟩, ⟨11, [146], [145], [10], [0], []⟩, ⟨12, [147], [135, 136], [0, 1, 0, 1, 4, 5, 6, 7, 11], [0], []⟩, ⟨13, [], [147, 142], [12, 7, 0, 1, 4, 5, 6, 7, 11], [0], [0]⟩, ⟨14, [148], [137, 138], [2, 3, 0, 1, 2, 3, 4, 5, 6, 7, 8, 9, 10, 11, 12, 13], [0], []⟩, ⟨15, [], [148, 146], [14, 11, 13, 0, 1, 2, 3, 4, 5, 6, 7, 8, 9, 10, 11, 12, 13], [0], [0]⟩]) (.two .none (.leaf) (.leaf))))))))) (.two .none (.draw [⟨0, [153], [0], [], [500000], []⟩, ⟨1, [154], [11], [], [], []⟩, ⟨2, [155], [0], [], [500000], []⟩, ⟨3, [156], [1], [], [], []⟩, ⟨4, [157], [0], [], [500000], []⟩, ⟨5, [158], [1], [], [], []⟩, ⟨6, [159], [157, 158], [4, 5], [0], []⟩, ⟨7, [160], [159], [6], [0], []⟩, ⟨8, [161], [0], [], [500000], []⟩, ⟨9, [162], [11], [], [], []⟩, ⟨10, [163], [161, 162], [8, 9], [0], []⟩, ⟨11, [164], [163], [10], [0], []⟩, ⟨12, [165], [153, 154], [0, 1, 0, 1, 4, 5, 6, 7, 11], [0], []⟩, ⟨13, [], [165, 160], [12, 7, 0, 1, 4, 5, 6, 7, 11], [0], [0]⟩, ⟨14, [166], [155, 156], [2, 3, 0, 1, 2, 3, 4, 5, 6, 7, 8, 9, 10, 11, 12, 13], [0], []⟩, ⟨15, [], [166, 164], [14, 11, 13, 0, 1, 2, 3, 4, 5, 6, 7, 8, 9, 10, 11, 12, 13], [0], [0]⟩]) (.two .none (.leaf) (.leaf)))))))))))))) Try.func86 (by kernel_rfl) (by kernel_rfl) (by kernel_rfl) Try.call86 (tbl_cons ok84 tbl_nil) (by intro a; kernel_rfl)
noncomputable def F64n (n : Nat) : Fun := ⟨64, [.m (.osl (.int .i64)), .v (.int .i64), .v (.int .i64), .v (.int .i64)], [], r_slices_pdqsortOrdered_int n⟩
theorem ok64n : ∀ n, OkFun E (F64n n)
  | 0 => ⟨Try.call64, fun _ _ h => by cases h⟩
  | n + 1 =>
    OkFun.of (fn := Try.f64) (rs := []) ((64, F64n n) :: (86, F86) :: (85, F85) :: (84, F84) :: (83, F83) :: (82, F82) :: (81, F81) :: (80, F80) :: (79, F79) :: (78, F78) :: []) [] [] (.two .none (.leaf) (.two .none (.leaf) (.one (.loop ⟨[(0, .s (.ref 0 [])), (1, .v (.int .i64)), (2, .v (.int .i64)), (3, .v (.int .i64)), (8, .v .bool), (9, .v .bool)], [(0, (.osl (.int .i64)))]⟩ .r (.one (.two .none (.leaf) (.two .none (.two .none (.leaf) (.two .none (.two .none (.leaf) (.leaf)) (.leaf))) (.two .none (.two .none (.leaf) (.two .none (.two .none (.leaf) (.leaf)) (.leaf))) (.two (.x [1, 2, 8, 9, 10] ⟨[(0, .s (.ref 0 [])), (3, .v (.int .i64))], [(0, (.osl (.int .i64)))]⟩) (.two .none (.leaf) (.two .none (.two .none (.leaf) (.leaf)) (.leaf))) (.two .none (.leaf) (.two (.x [1, 2, 3, 8, 9, 10] ⟨[(0, .s (.ref 0 [])), (11, .v (.int .i64)), (12, .v (.int .i64))], [(0, (.osl (.int .i64)))]⟩) (.two .none (.leaf) (.two .none (.two .none (.leaf) (.two .none (.leaf) (.leaf))) (.leaf))) (.two (.xr [1, 2, 3, 8, 9, 10, 11] ⟨[(0, .s (.ref 0 []))], [(0, (.osl (.int .i64)))]⟩) (.two (.x [] ⟨[(0, .s (.ref 0 [])), (68, .v .bool)], [(0, (.osl (.int .i64)))]⟩) (.leaf) (.two .none (.two .none (.leaf) (.two .none (.leaf) (.leaf))) (.leaf))) (.two (.xr [2, 3, 10, 11] ⟨[(0, .s (.ref 0 [])), (1, .v (.int .i64))], [(0, (.osl (.int .i64)))]⟩) (.two (.x [1, 8, 9] ⟨[(0, .s (.ref 0 [])), (87, .v .bool)], [(0, (.osl (.int .i64)))]⟩) (.draw [⟨0, [73], [1], [], [], []⟩, ⟨1, [74], [73], [0], [], []⟩, ⟨2, [75], [74], [1], [], []⟩, ⟨3, [76], [0, 75], [2], [500000], []⟩, ⟨4, [77], [1, 75], [2], [], []⟩, ⟨5, [78], [77, 75], [4, 2], [], []⟩, ⟨6, [79], [76, 78, 75], [3, 5, 2], [0], []⟩, ⟨7, [80], [79, 75], [6, 2], [0], []⟩, ⟨8, [81], [0, 75], [2], [500000], []⟩, ⟨9, [82], [11, 75], [2], [], []⟩, ⟨10, [83], [81, 82, 75], [8, 9, 2], [0], []⟩, ⟨11, [84], [83, 75], [10, 2], [0], []⟩, ⟨12, [85], [80, 84, 75], [7, 11, 2, 2], [], []⟩, ⟨13, [86], [85, 75], [12, 2], [], []⟩, ⟨14, [87], [75, 86], [2, 13], [], []⟩]) (.two .none (.two .none (.leaf) (.two .none (.leaf) (.leaf))) (.leaf))) (.two .none (.leaf) (.two .none (.leaf) (.two .none (.leaf) (.two .none (.leaf) (.two .none (.leaf) (.two .none (.two .none (.leaf) (.two .none (.leaf) (.leaf))) (.two .none (.leaf) (.two .none (.leaf) (.leaf)))))))))))))))))))))) Try.func64 (by kernel_rfl) (by kernel_rfl) (by kernel_rfl) Try.call64 (tbl_cons (ok64n n) (tbl_cons ok86 (tbl_cons ok85 (tbl_cons ok84 (tbl_cons ok83 (tbl_cons ok82 (tbl_cons ok81 (tbl_cons ok80 (tbl_cons ok79 (tbl_cons ok78 tbl_nil)))))))))) (by intro a; kernel_rfl)
noncomputable def F64 : Fun := ⟨64, [.m (.osl (.int .i64)), .v (.int .i64), .v (.int .i64), .v (.int .i64)], [], d_slices_pdqsortOrdered_int⟩
theorem ok64 : OkFun E F64 := fixO_ok ok64n
noncomputable def F41 : Fun := ⟨41, [.m (.osl (.int .i64))], [], d_slices_Sort_int_int⟩
theorem ok41 : OkFun E F41 :=
  OkFun.of (fn := Try.f41) (rs := []) ((65, F65) :: (64, F64) :: []) [] [] (.two .none (.leaf) (.leaf)) Try.func41 (by kernel_rfl) (by kernel_rfl) (by kernel_rfl) Try.call41 (tbl_cons ok65 (tbl_cons ok64 tbl_nil)) (by intro a; kernel_rfl)
noncomputable def F40 : Fun := ⟨40, [.v (.st (.pr (.slc .bor (.slc .bor (.int .i64))) .nil)), .v (.int .i64)], [(.osl (.slc .imm (.int .i64)))], d_graph_levels⟩
theorem ok40 : OkFun E F40 :=
  OkFun.of (fn := Try.f40) (rs := [.tmp 4]) ((41, F41) :: []) [(2, (.ptr .imm (.st (.pr (.slc .bor (.slc .bor (.int .i64))) .nil)))), (16, (.osl .bool)), (7, (.slc .imm (.int .i64))), (6, (.osl (.slc .imm (.int .i64)))), (8, (.osl (.int .i64)))] [(7, 21)] (.keep [0, 1] (.two .none (.leaf) (.two .none (.leaf) (.two .none (.leaf) (.two .none (.leaf) (.two .none (.two .none (.leaf) (.one (.keep [2] (.loop ⟨[(5, .s (.ref 5 [])), (6, .s (.ref 6 [])), (7, .v (.slc .imm (.int .i64)))], [(5, (.osl .bool)), (6, (.osl (.slc .imm (.int .i64))))]⟩ (.x 0 ⟨[(6, .s (.ref 6 []))], [(6, (.osl (.slc .imm (.int .i64))))]⟩) (.two .none (.two .none (.leaf) (.two .none (.leaf) (.leaf))) (.one (.two .none (.leaf) (.two .none (.leaf) (.two .none (.two .none (.leaf) (.one (.keep [29, 30] (.loop ⟨[(5, .s (.ref 5 [])), (6, .s (.ref 6 [])), (8, .s (.ref 8 [])), (31, .v (.int .i64))], [(5, (.osl .bool)), (6, (.osl (.slc .imm (.int .i64)))), (8, (.osl (.int .i64)))]⟩ (.x 2 ⟨[(5, .s (.ref 5 [])), (6, .s (.ref 6 [])), (8, .s (.ref 8 []))], [(5, (.osl .bool)), (6, (.osl (.slc .imm (.int .i64)))), (8, (.osl (.int .i64)))]⟩) (.two .none (.leaf) (.two .none (.two .none (.leaf) (.leaf)) (.two .none (.one (.two .none (.leaf) (.two .none (.leaf) (.one (.keep [31, 39, 40] (.loop ⟨[(5, .s (.ref 5 [])), (6, .s (.ref 6 [])), (8, .s (.ref 8 [])), (41, .v (.int .i64))], [(5, (.osl .bool)), (6, (.osl (.slc .imm (.int .i64)))), (8, (.osl (.int .i64)))]⟩ (.x 4 ⟨[(5, .s (.ref 5 [])), (6, .s (.ref 6 [])), (8, .s (.ref 8 []))], [(5, (.osl .bool)), (6, (.osl (.slc .imm (.int .i64)))), (8, (.osl (.int .i64)))]⟩) (.two .none (.leaf) (.two .none (.two .none (.leaf) (.leaf)) (.two (.x [41] ⟨[(5, .s (.ref 5 [])), (6, .s (.ref 6 [])), (8, .s (.ref 8 []))], [(5, (.osl .bool)), (6, (.osl (.slc .imm (.int .i64)))), (8, (.osl (.int .i64)))]⟩) (.one (.two .none (.leaf) (.two .none (.leaf) (.two .none (.two .none (.leaf) (.leaf)) (.leaf))))) (.leaf)))))))))) (.leaf)))))))) (.two .none (.leaf) (.fz [8] (.leaf)))))))))))) (.two .none (.leaf) (.leaf)))))))) Try.func40 (by kernel_rfl) (by kernel_rfl) (by kernel_rfl) Try.call40 (tbl_cons ok41 tbl_nil) (by intro a; kernel_rfl)
noncomputable def F63 : Fun := ⟨63, [.n, .v (.int .i64)], [(.osl (.int .i64))], d_slices_Grow_int_int⟩
theorem ok63 : OkFun E F63 := Tw.gr_ok rfl
noncomputable def F39 : Fun := ⟨39, [.v (.slc .bor (.slc .bor (.int .i64)))], [(.osl (.int .i64))], d_slices_Concat_int_int⟩
theorem ok39 : OkFun E F39 :=
  OkFun.of (fn := Try.f39) (rs := [.tmp 2]) ((63, F63) :: []) [] [] (.keep [0] (.two .none (.leaf) (.two .none (.leaf) (.two .none (.two .none (.leaf) (.one (.keep [9, 10] (.loop ⟨[(3, .v (.int .i64)), (11, .v (.int .i64))], []⟩ (.x 0 ⟨[(3, .v (.int .i64))], []⟩) (.two .none (.leaf) (.two .none (.two .none (.leaf) (.leaf)) (.two (.x [11] ⟨[(3, .v (.int .i64))], []⟩) (.one (.two .none (.leaf) (.two .none (.leaf) (.two .none (.leaf) (.two .none (.leaf) (.leaf)))))) (.leaf)))))))) (.two .none (.leaf) (.two .none (.two .none (.leaf) (.one (.keep [25, 26] (.loop ⟨[(6, .s (.ref 6 [])), (27, .v (.int .i64))], [(6, (.osl (.int .i64)))]⟩ (.x 2 ⟨[(6, .s (.ref 6 []))], [(6, (.osl (.int .i64)))]⟩) (.two .none (.leaf) (.two .none (.two .none (.leaf) (.leaf)) (.two .none (.one (.two .none (.leaf) (.leaf))) (.leaf)))))))) (.two .none (.leaf) (.leaf)))))))) Try.func39 (by kernel_rfl) (by kernel_rfl) (by kernel_rfl) Try.call39 (tbl_cons ok63 tbl_nil) (by intro a; kernel_rfl)
noncomputable def F17 : Fun := ⟨17, [.v (.st (.pr (.slc .bor (.slc .bor (.int .i64))) .nil))], [(.osl (.slc .imm (.int .i64)))], d_graph_Components⟩
theorem ok17 : OkFun E F17 :=
  OkFun.of (fn := Try.f17) (rs := [.tmp 2]) ((41, F41) :: (40, F40) :: (39, F39) :: (32, F32) :: []) [(1, (.ptr .imm (.st (.pr (.slc .bor (.slc .bor (.int .i64))) .nil)))), (15, (.osl .bool)), (4, (.osl (.slc .imm (.int .i64)))), (2, (.osl (.slc .imm (.int .i64))))] [] (.keep [0] (.two .none (.leaf) (.two .none (.two .none (.leaf) (.two .none (.two .none (.leaf) (.leaf)) (.leaf))) (.two .none (.leaf) (.two .none (.leaf) (.two .none (.two .none (.leaf) (.one (.keep [1, 18] (.loop ⟨[(3, .s (.ref 3 [])), (4, .s (.ref 4 [])), (19, .v (.int .i64))], [(3, (.osl .bool)), (4, (.osl (.slc .imm (.int .i64))))]⟩ (.x 0 ⟨[(4, .s (.ref 4 []))], [(4, (.osl (.slc .imm (.int .i64))))]⟩) (.two .none (.leaf) (.two .none (.two .none (.leaf) (.leaf)) (.two (.x [19] ⟨[(3, .s (.ref 3 [])), (4, .s (.ref 4 []))], [(3, (.osl .bool)), (4, (.osl (.slc .imm (.int .i64))))]⟩) (.one (.two .none (.leaf) (.two .none (.two .none (.leaf) (.two .none (.leaf) (.leaf))) (.two .none (.leaf) (.two .none (.leaf) (.two .none (.two .none (.leaf) (.one (.keep [33] (.loop ⟨[(3, .s (.ref 3 [])), (4, .s (.ref 4 [])), (6, .s (.ref 6 [])), (32, .s (.ref 6 [])), (34, .v (.int .i64))], [(3, (.osl .bool)), (4, (.osl (.slc .imm (.int .i64)))), (6, (.osl (.int .i64)))]⟩ (.x 2 ⟨[(3, .s (.ref 3 [])), (4, .s (.ref 4 [])), (6, .s (.ref 6 []))], [(3, (.osl .bool)), (4, (.osl (.slc .imm (.int .i64)))), (6, (.osl (.int .i64)))]⟩) (.two .none (.leaf) (.two .none (.two .none (.leaf) (.leaf)) (.two .none (.one (.two .none (.leaf) (.leaf))) (.leaf)))))))) (.fz [6] (.leaf)))))))) (.leaf)))))))) (.two .none (.leaf) (.leaf)))))))) Try.func17 (by kernel_rfl) (by kernel_rfl) (by kernel_rfl) Try.call17 (tbl_cons ok41 (tbl_cons ok40 (tbl_cons ok39 (tbl_cons ok32 tbl_nil)))) (by intro a; kernel_rfl)
noncomputable def F42 : Fun := ⟨42, [.v (.st (.pr (.slc .bor (.slc .bor (.int .i64))) .nil)), .v (.int .i64)], [.bool], d_graph_vertex⟩
theorem ok42 : OkFun E F42 :=
  OkFun.of (fn := Try.f42) (rs := [.tmp 4]) ([]) [(2, (.ptr .imm (.st (.pr (.slc .bor (.slc .bor (.int .i64))) .nil))))] [] (.keep [0, 1] (.two .none (.leaf) (.two .none (.leaf) (.leaf)))) Try.func42 (by kernel_rfl) (by kernel_rfl) (by kernel_rfl) Try.call42 tbl_nil (by intro a; kernel_rfl)
noncomputable def F19 : Fun := ⟨19, [.v (.st (.pr (.slc .bor (.slc .bor (.int .i64))) .nil)), .v (.int .i64)], [(.int .i64)], d_graph_Peripheral⟩
theorem ok19 : OkFun E F19 :=
  OkFun.of (fn := Try.f19) (rs := [.tmp 4]) ((42, F42) :: (40, F40) :: (32, F32) :: []) [(2, (.ptr .imm (.st (.pr (.slc .bor (.slc .bor (.int .i64))) .nil)))), (5, (.slc .imm (.slc .imm (.int .i64)))), (10, (.slc .imm (.slc .imm (.int .i64))))] [(5, 22), (10, 55)] (.keep [0] (.two .none (.leaf) (.two (.xr [1, 2] ⟨[], []⟩) (.two .none (.leaf) (.two .none (.two .none (.leaf) (.leaf)) (.leaf))) (.two .none (.leaf) (.one (.keep [2] (.loop ⟨[(1, .v (.int .i64)), (5, .v (.slc .imm (.slc .imm (.int .i64))))], []⟩ .r (.one (.two .none (.leaf) (.two .none (.leaf) (.two .none (.two .none (.leaf) (.one (.keep [1, 5, 32, 33] (.loop ⟨[(7, .v (.int .i64)), (34, .v (.int .i64))], []⟩ (.x 2 ⟨[(7, .v (.int .i64))], []⟩) (.two .none (.leaf) (.two .none (.two .none (.leaf) (.leaf)) (.two (.x [34] ⟨[(7, .v (.int .i64))], []⟩) (.one (.two .none (.leaf) (.two .none (.draw [⟨0, [38], [2], [], [], []⟩, ⟨1, [39], [38], [0], [], []⟩, ⟨2, [40], [9], [], [], []⟩, ⟨3, [41], [39, 40], [1, 2], [], []⟩, ⟨4, [42], [41], [3], [], []⟩, ⟨5, [43], [42], [4], [], []⟩, ⟨6, [44], [2], [], [], []⟩, ⟨7, [45], [44], [6], [], []⟩, ⟨8, [46], [7], [], [], []⟩, ⟨9, [47], [45, 46], [7, 8], [], []⟩, ⟨10, [48], [47], [9], [], []⟩, ⟨11, [49], [48], [10], [], []⟩, ⟨12, [50], [43, 49], [5, 11], [], []⟩]) (.two .none (.leaf) (.leaf))))) (.leaf)))))))) (.two .none (.leaf) (.two .none (.two .none (.leaf) (.two .none (.two .none (.leaf) (.leaf)) (.leaf))) (.leaf)))))))))))))) Try.func19 (by kernel_rfl) (by kernel_rfl) (by kernel_rfl) Try.call19 (tbl_cons ok42 (tbl_cons ok40 (tbl_cons ok32 tbl_nil))) (by intro a; kernel_rfl)
noncomputable def F57 : Fun := ⟨57, [.v (.int .i64), .v (.int .i64)], [(.int .i64)], d_cmp_Compare_int⟩
theorem ok57 : OkFun E F57 :=
  OkFun.of (fn := Try.f57) (rs := [.tmp 4]) ((73, F73) :: []) [] [] (.keep [0, 1] (.two .none (.leaf) (.two .none (.leaf) (.two .none (.leaf) (.two .none (.two .none (.leaf) (.two .none (.two .none (.two .none (.leaf) (.two .none (.two .none (.leaf) (.leaf)) (.leaf))) (.two .none (.leaf) (.leaf))) (.leaf))) (.two .none (.two .none (.leaf) (.two .none (.two .none (.leaf) (.leaf)) (.leaf))) (.two .none (.two .none (.leaf) (.two .none (.two .none (.leaf) (.leaf)) (.leaf))) (.two .none (.two .none (.leaf) (.two .none (.two .none (.leaf) (.leaf)) (.leaf))) (.two .none (.leaf) (.leaf)))))))))) Try.func57 (by kernel_rfl) (by kernel_rfl) (by kernel_rfl) Try.call57 (tbl_cons ok73 tbl_nil) (by intro a; kernel_rfl)
noncomputable def F56 : Fun := ⟨56, [.v (.slc .bor (.int .i64))], [(.int .i64)], d_cmp_Or_int⟩
theorem ok56 : OkFun E F56 :=
  OkFun.of (fn := Try.f56) (rs := [.tmp 2]) ([]) [] [] (.keep [0] (.two .none (.leaf) (.two .none (.leaf) (.two .none (.two .none (.leaf) (.one (.keep [3, 6, 7] (.loop ⟨[(8, .v (.int .i64))], []⟩ (.xr 0 ⟨[], []⟩) (.two .none (.leaf) (.two .none (.two .none (.leaf) (.leaf)) (.two .none (.one (.two .none (.leaf) (.two .none (.leaf) (.two .none (.two .none (.leaf) (.leaf)) (.leaf))))) (.leaf)))))))) (.two .none (.leaf) (.leaf)))))) Try.func56 (by kernel_rfl) (by kernel_rfl) (by kernel_rfl) Try.call56 tbl_nil (by intro a; kernel_rfl)
noncomputable def F55x0 : Fun := ⟨55, [.v (.int .i64), .v (.int .i64), .v (.ptr .imm (.st (.pr (.slc .bor (.slc .bor (.int .i64))) .nil)))], [(.int .i64)], d_rcm_grow_1q_q0⟩
theorem ok55x0 : OkFun E F55x0 :=
  OkFun.of (fn := Try.f55) (rs := [.tmp 5]) ((57, F57) :: (56, F56) :: []) [] [] (.keep [0, 1, 2] (.two .none (.leaf) (.two .none (.draw [⟨0, [6], [2], [], [], []⟩, ⟨1, [7], [6], [0], [], []⟩, ⟨2, [8], [0], [], [], []⟩, ⟨3, [9], [7, 8], [1, 2], [], []⟩, ⟨4, [10], [9], [3], [], []⟩, ⟨5, [11], [10], [4], [], []⟩, ⟨6, [12], [2], [], [], []⟩, ⟨7, [13], [12], [6], [], []⟩, ⟨8, [14], [1], [], [], []⟩, ⟨9, [15], [13, 14], [7, 8], [], []⟩, ⟨10, [16], [15], [9], [], []⟩, ⟨11, [17], [16], [10], [], []⟩, ⟨12, [18], [11, 17], [5, 11], [], []⟩, ⟨13, [19], [0], [], [], []⟩, ⟨14, [20], [1], [], [], []⟩, ⟨15, [21], [19, 20], [13, 14, 12], [], []⟩, ⟨16, [22], [18, 21], [12, 15], [22], [22]⟩, ⟨17, [23], [22], [16, 15], [22], []⟩, ⟨18, [5], [23], [17, 17, 0, 1, 2, 3, 4, 5, 6, 7, 8, 9, 10, 11, 12, 13, 14, 15, 16, 17], [], []⟩]) (.leaf)))) Try.func55 (by kernel_rfl) (by kernel_rfl) (by kernel_rfl) Try.call55 (tbl_cons ok57 (tbl_cons ok56 tbl_nil)) (by intro a; kernel_rfl)
noncomputable def F91x0 : Fun := ⟨91, [.m (.osl (.int .i64)), .v (.int .i64), .v (.int .i64), .c 55 [(.ptr .imm (.st (.pr (.slc .bor (.slc .bor (.int .i64))) .nil)))]], [], d_slices_insertionSortCmpFunc_int_rcm⟩
theorem ok91x0 : OkFun E F91x0 :=
  OkFun.of (fn := Try.f91) (rs := []) ((55, F55x0) :: []) [] [] (.keep [1, 2, 3] (.two .none (.leaf) (.one (.loop ⟨[(0, .s (.ref 0 [])), (8, .v (.int .i64))], [(0, (.osl (.int .i64)))]⟩ (.x 0 ⟨[(0, .s (.ref 0 []))], [(0, (.osl (.int .i64)))]⟩) (.two .none (.two .none (.leaf) (.two .none (.leaf) (.leaf))) (.two .none (.one (.two .none (.leaf) (.one (.keep [8] (.loop ⟨[(0, .s (.ref 0 [])), (9, .v (.int .i64))], [(0, (.osl (.int .i64)))]⟩ (.x 2 ⟨[(0, .s (.ref 0 []))], [(0, (.osl (.int .i64)))]⟩) (.two (.xr [9] ⟨[(0, .s (.ref 0 []))], [(0, (.osl (.int .i64)))]⟩) (.two .none (.draw [⟨0, [18], [9], [], [], []⟩, ⟨1, [19], [1], [], [], []⟩, ⟨2, [20], [18, 19], [0, 1], [], []⟩, ⟨3, [21], [20], [2], [], []⟩, ⟨4, [22], [3, 21], [3], [], []⟩, ⟨5, [23], [0, 21], [3], [500000], []⟩, ⟨6, [24], [9, 21], [3], [], []⟩, ⟨7, [25], [23, 24, 21], [5, 6, 3], [0], []⟩, ⟨8, [26], [25, 21], [7, 3], [0], []⟩, ⟨9, [27], [0, 21], [3], [500000], []⟩, ⟨10, [28], [9, 21], [3], [], []⟩, ⟨11, [29], [28, 21], [10, 3], [], []⟩, ⟨12, [30], [27, 29, 21], [9, 11, 3], [0], []⟩, ⟨13, [31], [30, 21], [12, 3], [0], []⟩, ⟨14, [32], [22, 26, 31, 21], [4, 8, 13, 3, 3], [], []⟩, ⟨15, [33], [32, 21], [14, 3], [], []⟩, ⟨16, [34], [21, 33], [3, 15], [], []⟩]) (.two .none (.leaf) (.leaf))) (.two .none (.one (.draw [⟨0, [37], [0], [], [500000], []⟩, ⟨1, [38], [9], [], [], []⟩, ⟨2, [39], [0], [], [500000], []⟩, ⟨3, [40], [9], [], [], []⟩, ⟨4, [41], [40], [3], [], []⟩, ⟨5, [42], [0], [], [500000], []⟩, ⟨6, [43], [9], [], [], []⟩, ⟨7, [44], [43], [6], [], []⟩, ⟨8, [45], [42, 44], [5, 7], [0], []⟩, ⟨9, [46], [45], [8], [0], []⟩, ⟨10, [47], [0], [], [500000], []⟩, ⟨11, [48], [9], [], [], []⟩, ⟨12, [49], [47, 48], [10, 11], [0], []⟩, ⟨13, [50], [49], [12], [0], []⟩, ⟨14, [51], [37, 38], [0, 1, 0, 1, 5, 6, 7, 8, 9, 13], [0], []⟩, ⟨15, [], [51, 46], [14, 9, 0, 1, 5, 6, 7, 8, 9, 13], [0], [0]⟩, ⟨16, [52], [39, 41], [2, 4, 0, 1, 2, 3, 4, 5, 6, 7, 8, 9, 10, 11, 12, 13, 14, 15], [0], []⟩, ⟨17, [], [52, 50], [16, 13, 15, 0, 1, 2, 3, 4, 5, 6, 7, 8, 9, 10, 11, 12, 13, 14, 15], [0], [0]⟩])) (.leaf)))))))) (.leaf))))))) Try.func91 (by kernel_rfl) (by kernel_rfl) (by kernel_rfl) Try.call91 (tbl_cons ok55x0 tbl_nil) (by intro a; kernel_rfl)
noncomputable def F106x0 : Fun := ⟨106, [.m (.osl (.int .i64)), .v (.int .i64), .v (.int .i64), .v (.int .i64), .c 55 [(.ptr .imm (.st (.pr (.slc .bor (.slc .bor (.int .i64))) .nil)))]], [], d_slices_siftDownCmpFunc_int_rcm⟩
theorem ok106x0 : OkFun E F106x0 :=
  OkFun.of (fn := Try.f106) (rs := []) ((55, F55x0) :: []) [] [] (.keep [1, 2, 3, 4] (.two .none (.leaf) (.one (.loop ⟨[(0, .s (.ref 0 [])), (10, .v (.int .i64))], [(0, (.osl (.int .i64)))]⟩ (.xr 0 ⟨[(0, .s (.ref 0 []))], [(0, (.osl (.int .i64)))]⟩) (.one (.two .none (.leaf) (.two .none (.two .none (.leaf) (.two .none (.leaf) (.leaf))) (.two (.x [10] ⟨[(0, .s (.ref 0 [])), (11, .v (.int .i64))], [(0, (.osl (.int .i64)))]⟩) (.two (.x [11] ⟨[(0, .s (.ref 0 [])), (40, .v .bool)], [(0, (.osl (.int .i64)))]⟩) (.draw [⟨0, [19], [11], [], [], []⟩, ⟨1, [20], [19], [0], [], []⟩, ⟨2, [21], [2], [], [], []⟩, ⟨3, [22], [20, 21], [1, 2], [], []⟩, ⟨4, [23], [22], [3], [], []⟩, ⟨5, [24], [4, 23], [4], [], []⟩, ⟨6, [25], [0, 23], [4], [500000], []⟩, ⟨7, [26], [3, 23], [4], [], []⟩, ⟨8, [27], [11, 23], [4], [], []⟩, ⟨9, [28], [26, 27, 23], [7, 8, 4], [], []⟩, ⟨10, [29], [25, 28, 23], [6, 9, 4], [0], []⟩, ⟨11, [30], [29, 23], [10, 4], [0], []⟩, ⟨12, [31], [0, 23], [4], [500000], []⟩, ⟨13, [32], [3, 23], [4], [], []⟩, ⟨14, [33], [11, 23], [4], [], []⟩, ⟨15, [34], [32, 33, 23], [13, 14, 4], [], []⟩, ⟨16, [35], [34, 23], [15, 4], [], []⟩, ⟨17, [36], [31, 35, 23], [12, 16, 4], [0], []⟩, ⟨18, [37], [36, 23], [17, 4], [0], []⟩, ⟨19, [38], [24, 30, 37, 23], [5, 11, 18, 4, 4], [], []⟩, ⟨20, [39], [38, 23], [19, 4], [], []⟩, ⟨21, [40], [23, 39], [4, 20], [], []⟩]) (.two .none (.leaf) (.leaf))) (.two .none (.two .none (.draw [⟨0, [43], [4], [], [], []⟩, ⟨1, [44], [0], [], [500000], []⟩, ⟨2, [45], [3], [], [], []⟩, ⟨3, [46], [10], [], [], []⟩, ⟨4, [47], [45, 46], [2, 3], [], []⟩, ⟨5, [48], [44, 47], [1, 4], [0], []⟩, ⟨6, [49], [48], [5], [0], []⟩, ⟨7, [50], [0], [], [500000], []⟩, ⟨8, [51], [3], [], [], []⟩, ⟨9, [52], [11], [], [], []⟩, ⟨10, [53], [51, 52], [8, 9], [], []⟩, ⟨11, [54], [50, 53], [7, 10], [0], []⟩, ⟨12, [55], [54], [11], [0], []⟩, ⟨13, [56], [43, 49, 55], [0, 6, 12], [], []⟩, ⟨14, [57], [56], [13], [], []⟩, ⟨15, [58], [57], [14], [], []⟩]) (.two .none (.leaf) (.leaf))) (.two .none (.draw [⟨0, [59], [0], [], [500000], []⟩, ⟨1, [60], [3], [], [], []⟩, ⟨2, [61], [10], [], [], []⟩, ⟨3, [62], [60, 61], [1, 2], [], []⟩, ⟨4, [63], [0], [], [500000], []⟩, ⟨5, [64], [3], [], [], []⟩, ⟨6, [65], [11], [], [], []⟩, ⟨7, [66], [64, 65], [5, 6], [], []⟩, ⟨8, [67], [0], [], [500000], []⟩, ⟨9, [68], [3], [], [], []⟩, ⟨10, [69], [11], [], [], []⟩, ⟨11, [70], [68, 69], [9, 10], [], []⟩, ⟨12, [71], [67, 70], [8, 11], [0], []⟩, ⟨13, [72], [71], [12], [0], []⟩, ⟨14, [73], [0], [], [500000], []⟩, ⟨15, [74], [3], [], [], []⟩, ⟨16, [75], [10], [], [], []⟩, ⟨17, [76], [74, 75], [15, 16], [], []⟩, ⟨18, [77], [73, 76], [14, 17], [0], []⟩, ⟨19, [78], [77], [18], [0], []⟩, ⟨20, [79], [59, 62], [0, 3, 0, 1, 2, 3, 8, 9, 10, 11, 12, 13, 19], [0], []⟩, ⟨21, [], [79, 72], [20, 13, 0, 1, 2, 3, 8, 9, 10, 11, 12, 13, 19], [0], [0]⟩, ⟨22, [80], [63, 66], [4, 7, 0, 1, 2, 3, 4, 5, 6, 7, 8, 9, 10, 11, 12, 13, 14, 15, 16, 17, 18, 19, 20, 21], [0], []⟩, ⟨23, [], [80, 78], [22, 19, 21, 0, 1, 2, 3, 4, 5, 6, 7, 8, 9, 10, 11, 12, 13, 14, 15, 16, 17, 18, 19, 20, 21], [0], [0]⟩]) (.leaf))))))))))) Try.func106 (by kernel_rfl) (by kernel_rfl) (by kernel_rfl) Try.call106 (tbl_cons ok55x0 tbl_nil) (by intro a; kernel_rfl)
noncomputable def F92x0 : Fun := ⟨92, [.m (.osl (.int .i64)), .v (.int .i64), .v (.int .i64), .c 55 [(.ptr .imm (.st (.pr (.slc .bor (.slc .bor (.int .i64))) .nil)))]], [], d_slices_heapSortCmpFunc_int_rcm⟩
theorem ok92x0 : OkFun E F92x0 :=
  OkFun.of (fn := Try.f92) (rs := []) ((106, F106x0) :: []) [] [] (.keep [1, 2, 3] (.two .none (.leaf) (.two .none (.leaf) (.two .none (.leaf) (.two .none (.two .none (.leaf) (.one (.keep [8, 9, 10] (.loop ⟨[(0, .s (.ref 0 [])), (11, .v (.int .i64))], [(0, (.osl (.int .i64)))]⟩ (.x 0 ⟨[(0, .s (.ref 0 []))], [(0, (.osl (.int .i64)))]⟩) (.two .none (.two .none (.leaf) (.two .none (.leaf) (.leaf))) (.two .none (.one (.leaf)) (.leaf))))))) (.two .none (.leaf) (.one (.keep [8, 9] (.loop ⟨[(0, .s (.ref 0 [])), (12, .v (.int .i64))], [(0, (.osl (.int .i64)))]⟩ (.x 2 ⟨[(0, .s (.ref 0 []))], [(0, (.osl (.int .i64)))]⟩) (.two .none (.two .none (.leaf) (.two .none (.leaf) (.leaf))) (.two .none (.one (.two .none (.draw [⟨0, [36], [0], [], [500000], []⟩, ⟨1, [37], [8], [], [], []⟩, ⟨2, [38], [0], [], [500000], []⟩, ⟨3, [39], [8], [], [], []⟩, ⟨4, [40], [12], [], [], []⟩, ⟨5, [41], [39, 40], [3, 4], [], []⟩, ⟨6, [42], [0], [], [500000], []⟩, ⟨7, [43], [8], [], [], []⟩, ⟨8, [44], [12], [], [], []⟩, ⟨9, [45], [43, 44], [7, 8], [], []⟩, ⟨10, [46], [42, 45], [6, 9], [0], []⟩, ⟨11, [47], [46], [10], [0], []⟩, ⟨12, [48], [0], [], [500000], []⟩, ⟨13, [49], [8], [], [], []⟩, ⟨14, [50], [48, 49], [12, 13], [0], []⟩, ⟨15, [51], [50], [14], [0], []⟩, ⟨16, [52], [36, 37], [0, 1, 0, 1, 6, 7, 8, 9, 10, 11, 15], [0], []⟩, ⟨17, [], [52, 47], [16, 11, 0, 1, 6, 7, 8, 9, 10, 11, 15], [0], [0]⟩, ⟨18, [53], [38, 41], [2, 5, 0, 1, 2, 3, 4, 5, 6, 7, 8, 9, 10, 11, 12, 13, 14, 15, 16, 17], [0], []⟩, ⟨19, [], [53, 51], [18, 15, 17, 0, 1, 2, 3, 4, 5, 6, 7, 8, 9, 10, 11, 12, 13, 14, 15, 16, 17], [0], [0]⟩]) (.leaf))) (.leaf)))))))))))) Try.func92 (by kernel_rfl) (by kernel_rfl) (by kernel_rfl) Try.call92 (tbl_cons ok106x0 tbl_nil) (by intro a; kernel_rfl)
noncomputable def F93x0 : Fun := ⟨93, [.m (.osl (.int .i64)), .v (.int .i64), .v (.int .i64), .c 55 [(.ptr .imm (.st (.pr (.slc .bor (.slc .bor (.int .i64))) .nil)))]], [], d_slices_breakPatternsCmpFunc_int_rcm⟩
theorem ok93x0 : OkFun E F93x0 :=
  OkFun.of (fn := Try.f93) (rs := []) ((103, F103) :: (102, F102) :: []) [(9, (.int .u64))] [] (.keep [1, 2, 3] (.two .none (.leaf) (.two .none (.leaf) (.two .none (.two .none (.leaf) (.two .none (.leaf) (.two .none (.leaf) (.one (.keep [8, 10] (.loop ⟨[(0, .s (.ref 0 [])), (9, .s (.ref 9 [])), (11, .v (.int .i64))], [(0, (.osl (.int .i64))), (9, (.optr (.int .u64)))]⟩ (.x 0 ⟨[(0, .s (.ref 0 []))], [(0, (.osl (.int .i64)))]⟩) (.two .none (.two .none (.leaf) (.two .none (.leaf) (.leaf))) (.two (.x [11] ⟨[(0, .s (.ref 0 [])), (9, .s (.ref 9 []))], [(0, (.osl (.int .i64))), (9, (.optr (.int .u64)))]⟩) (.one (.two .none (.leaf) (.two (.x [] ⟨[(0, .s (.ref 0 [])), (9, .s (.ref 9 [])), (12, .v (.int .i64))], [(0, (.osl (.int .i64))), (9, (.optr (.int .u64)))]⟩) (.two .none (.leaf) (.two .none (.leaf) (.leaf))) (.draw [⟨0, [49], [0], [], [500000], []⟩, ⟨1, [50], [11], [], [], []⟩, ⟨2, [51], [0], [], [500000], []⟩, ⟨3, [52], [1], [], [], []⟩, ⟨4, [53], [12], [], [], []⟩, ⟨5, [54], [52, 53], [3, 4], [], []⟩, ⟨6, [55], [0], [], [500000], []⟩, ⟨7, [56], [1], [], [], []⟩, ⟨8, [57], [12], [], [], []⟩, ⟨9, [58], [56, 57], [7, 8], [], []⟩, ⟨10, [59], [55, 58], [6, 9], [0], []⟩, ⟨11, [60], [59], [10], [0], []⟩, ⟨12, [61], [0], [], [500000], []⟩, ⟨13, [62], [11], [], [], []⟩, ⟨14, [63], [61, 62], [12, 13], [0], []⟩, ⟨15, [64], [63], [14], [0], []⟩, ⟨16, [65], [49, 50], [0, 1, 0, 1, 6, 7, 8, 9, 10, 11, 15], [0], []⟩, ⟨17, [], [65, 60], [16, 11, 0, 1, 6, 7, 8, 9, 10, 11, 15], [0], [0]⟩, ⟨18, [66], [51, 54], [2, 5, 0, 1, 2, 3, 4, 5, 6, 7, 8, 9, 10, 11, 12, 13, 14, 15, 16, 17], [0], []⟩, ⟨19, [], [66, 64], [18, 15, 17, 0, 1, 2, 3, 4, 5, 6, 7, 8, 9, 10, 11, 12, 13, 14, 15, 16, 17], [0], [0]⟩])))) (.leaf))))))))) (.leaf))))) Try.func93 (by kernel_rfl) (by kernel_rfl) (by kernel_rfl) Try.call93 (tbl_cons ok103 (tbl_cons ok102 tbl_nil)) (by intro a; kernel_rfl)
noncomputable def F111x0 : Fun := ⟨111, [.v (.slc .bor (.int .i64)), .v (.int .i64), .v (.int .i64), .m (.optr (.int .i64)), .c 55 [(.ptr .imm (.st (.pr (.slc .bor (.slc .bor (.int .i64))) .nil)))]], [(.int .i64), (.int .i64)], d_slices_order2CmpFunc_int_rcm⟩
theorem ok111x0 : OkFun E F111x0 :=
  OkFun.of (fn := Try.f111) (rs := [.tmp 10, .tmp 11]) ((55, F55x0) :: []) [] [] (.keep [0, 1, 2, 4] (.two .none (.leaf) (.two .none (.two .none (.draw [⟨0, [12], [4], [], [], []⟩, ⟨1, [13], [0], [], [], []⟩, ⟨2, [14], [2], [], [], []⟩, ⟨3, [15], [13, 14], [1, 2], [], []⟩, ⟨4, [16], [15], [3], [], []⟩, ⟨5, [17], [0], [], [], []⟩, ⟨6, [18], [1], [], [], []⟩, ⟨7, [19], [17, 18], [5, 6], [], []⟩, ⟨8, [20], [19], [7], [], []⟩, ⟨9, [21], [12, 16, 20], [0, 4, 8], [], []⟩, ⟨10, [22], [21], [9], [], []⟩]) (.two .none (.two .none (.leaf) (.two .none (.leaf) (.leaf))) (.leaf))) (.two .none (.leaf) (.leaf))))) Try.func111 (by kernel_rfl) (by kernel_rfl) (by kernel_rfl) Try.call111 (tbl_cons ok55x0 tbl_nil) (by intro a; kernel_rfl)
noncomputable def F108x0 : Fun := ⟨108, [.v (.slc .bor (.int .i64)), .v (.int .i64), .v (.int .i64), .v (.int .i64), .m (.optr (.int .i64)), .c 55 [(.ptr .imm (.st (.pr (.slc .bor (.slc .bor (.int .i64))) .nil)))]], [(.int .i64)], d_slices_medianCmpFunc_int_rcm⟩
theorem ok108x0 : OkFun E F108x0 :=
  OkFun.of (fn := Try.f108) (rs := [.tmp 12]) ((111, F111x0) :: []) [] [] (.keep [0, 5] (.two .none (.leaf) (.two .none (.leaf) (.two .none (.leaf) (.two .none (.leaf) (.two .none (.leaf) (.leaf))))))) Try.func108 (by kernel_rfl) (by kernel_rfl) (by kernel_rfl) Try.call108 (tbl_cons ok111x0 tbl_nil) (by intro a; kernel_rfl)
noncomputable def F107x0 : Fun := ⟨107, [.v (.slc .bor (.int .i64)), .v (.int .i64), .m (.optr (.int .i64)), .c 55 [(.ptr .imm (.st (.pr (.slc .bor (.slc .bor (.int .i64))) .nil)))]], [(.int .i64)], d_slices_medianAdjacentCmpFunc_int_rcm⟩
theorem ok107x0 : OkFun E F107x0 :=
  OkFun.of (fn := Try.f107) (rs := [.tmp 8]) ((108, F108x0) :: []) [] [] (.keep [0, 1, 3] (.two .none (.leaf) (.two .none (.leaf) (.leaf)))) Try.func107 (by kernel_rfl) (by kernel_rfl) (by kernel_rfl) Try.call107 (tbl_cons ok108x0 tbl_nil) (by intro a; kernel_rfl)
noncomputable def F94x0 : Fun := ⟨94, [.v (.slc .bor (.int .i64)), .v (.int .i64), .v (.int .i64), .c 55 [(.ptr .imm (.st (.pr (.slc .bor (.slc .bor (.int .i64))) .nil)))]], [(.int .i64), (.int .i64)], d_slices_choosePivotCmpFunc_int_rcm⟩
theorem ok94x0 : OkFun E F94x0 :=
  OkFun.of (fn := Try.f94) (rs := [.tmp 8, .tmp 9]) ((108, F108x0) :: (107, F107x0) :: []) [(11, (.int .i64))] [] (.keep [0, 1, 2, 3] (.two .none (.leaf) (.two .none (.leaf) (.two .none (.leaf) (.two .none (.leaf) (.two .none (.leaf) (.two .none (.leaf) (.two (.x [] ⟨[(11, .s (.ref 11 [])), (13, .v (.int .i64))], [(11, (.optr (.int .i64)))]⟩) (.two .none (.leaf) (.two .none (.two (.x [] ⟨[(11, .s (.ref 11 [])), (12, .v (.int .i64)), (13, .v (.int .i64)), (14, .v (.int .i64))], [(11, (.optr (.int .i64)))]⟩) (.two .none (.leaf) (.two .none (.two .none (.leaf) (.two .none (.leaf) (.leaf))) (.leaf))) (.leaf)) (.leaf))) (.two .none (.leaf) (.one (.two .none (.leaf) (.two .none (.two .none (.leaf) (.leaf)) (.two .none (.leaf) (.two .none (.two .none (.leaf) (.leaf)) (.two .none (.leaf) (.leaf)))))))))))))))) Try.func94 (by kernel_rfl) (by kernel_rfl) (by kernel_rfl) Try.call94 (tbl_cons ok108x0 (tbl_cons ok107x0 tbl_nil)) (by intro a; kernel_rfl)
noncomputable def F95x0 : Fun := ⟨95, [.m (.osl (.int .i64)), .v (.int .i64), .v (.int .i64), .c 55 [(.ptr .imm (.st (.pr (.slc .bor (.slc .bor (.int .i64))) .nil)))]], [], d_slices_reverseRangeCmpFunc_int_rcm⟩
theorem ok95x0 : OkFun E F95x0 :=
  OkFun.of (fn := Try.f95) (rs := []) ([]) [] [] (.keep [1, 2, 3] (.two .none (.leaf) (.two .none (.leaf) (.one (.loop ⟨[(0, .s (.ref 0 [])), (8, .v (.int .i64)), (9, .v (.int .i64))], [(0, (.osl (.int .i64)))]⟩ (.x 0 ⟨[(0, .s (.ref 0 []))], [(0, (.osl (.int .i64)))]⟩) (.two .none (.two .none (.leaf) (.two .none (.leaf) (.leaf))) (.one (.two .none (.draw [⟨0, [16], [0], [], [500000], []⟩, ⟨1, [17], [8], [], [], []⟩, ⟨2, [18], [0], [], [500000], []⟩, ⟨3, [19], [9], [], [], []⟩, ⟨4, [20], [0], [], [500000], []⟩, ⟨5, [21], [9], [], [], []⟩, ⟨6, [22], [20, 21], [4, 5], [0], []⟩, ⟨7, [23], [22], [6], [0], []⟩, ⟨8, [24], [0], [], [500000], []⟩, ⟨9, [25], [8], [], [], []⟩, ⟨10, [26], [24, 25], [8, 9], [0], []⟩, ⟨11, [27], [26], [10], [0], []⟩, ⟨12, [28], [16, 17], [0, 1, 0, 1, 4, 5, 6, 7, 11], [0], []⟩, ⟨13, [], [28, 23], [12, 7, 0, 1, 4, 5, 6, 7, 11], [0], [0]⟩, ⟨14, [29], [18, 19], [2, 3, 0, 1, 2, 3, 4, 5, 6, 7, 8, 9, 10, 11, 12, 13], [0], []⟩, ⟨15, [], [29, 27], [14, 11, 13, 0, 1, 2, 3, 4, 5, 6, 7, 8, 9, 10, 11, 12, 13], [0], [0]⟩]) (.two .none (.leaf) (.leaf)))))))))) Try.func95 (by kernel_rfl) (by kernel_rfl) (by kernel_rfl) Try.call95 tbl_nil (by intro a; kernel_rfl)
noncomputable def F96x0 : Fun := ⟨96, [.m (.osl (.int .i64)), .v (.int .i64), .v (.int .i64), .c 55 [(.ptr .imm (.st (.pr (.slc .bor (.slc .bor (.int .i64))) .nil)))]], [.bool], d_slices_partialInsertionSortCmpFunc_int_rcm⟩
theorem ok96x0 : OkFun E F96x0 :=
  OkFun.of (fn := Try.f96) (rs := [.tmp 8]) ((55, F55x0) :: []) [] [] (.keep [1, 2, 3] (.two .none (.leaf) (.two .none (.leaf) (.two .none (.two .none (.leaf) (.one (.loop ⟨[(0, .s (.ref 0 [])), (9, .v (.int .i64)), (10, .v (.int .i64))], [(0, (.osl (.int .i64)))]⟩ (.xr 0 ⟨[(0, .s (.ref 0 []))], [(0, (.osl (.int .i64)))]⟩) (.two .none (.two .none (.leaf) (.two .none (.leaf) (.leaf))) (.two (.xr [10] ⟨[(0, .s (.ref 0 [])), (9, .v (.int .i64))], [(0, (.osl (.int .i64)))]⟩) (.one (.two .none (.one (.loop ⟨[(0, .s (.ref 0 [])), (9, .v (.int .i64))], [(0, (.osl (.int .i64)))]⟩ (.x 2 ⟨[(0, .s (.ref 0 [])), (9, .v (.int .i64))], [(0, (.osl (.int .i64)))]⟩) (.two (.xr [9] ⟨[(0, .s (.ref 0 []))], [(0, (.osl (.int .i64)))]⟩) (.two .none (.draw [⟨0, [19], [9], [], [], []⟩, ⟨1, [20], [2], [], [], []⟩, ⟨2, [21], [19, 20], [0, 1], [], []⟩, ⟨3, [22], [21], [2], [], []⟩, ⟨4, [23], [3, 22], [3], [], []⟩, ⟨5, [24], [0, 22], [3], [500000], []⟩, ⟨6, [25], [9, 22], [3], [], []⟩, ⟨7, [26], [24, 25, 22], [5, 6, 3], [0], []⟩, ⟨8, [27], [26, 22], [7, 3], [0], []⟩, ⟨9, [28], [0, 22], [3], [500000], []⟩, ⟨10, [29], [9, 22], [3], [], []⟩, ⟨11, [30], [29, 22], [10, 3], [], []⟩, ⟨12, [31], [28, 30, 22], [9, 11, 3], [0], []⟩, ⟨13, [32], [31, 22], [12, 3], [0], []⟩, ⟨14, [33], [23, 27, 32, 22], [4, 8, 13, 3, 3], [], []⟩, ⟨15, [34], [33, 22], [14, 3], [], []⟩, ⟨16, [35], [34, 22], [15, 3], [], []⟩, ⟨17, [36], [22, 35], [3, 16], [], []⟩]) (.two .none (.leaf) (.leaf))) (.one (.leaf))))) (.two .none (.two .none (.leaf) (.two .none (.two .none (.leaf) (.leaf)) (.leaf))) (.two .none (.two .none (.leaf) (.two .none (.two .none (.leaf) (.leaf)) (.leaf))) (.two .none (.draw [⟨0, [46], [0], [], [500000], []⟩, ⟨1, [47], [9], [], [], []⟩, ⟨2, [48], [0], [], [500000], []⟩, ⟨3, [49], [9], [], [], []⟩, ⟨4, [50], [49], [3], [], []⟩, ⟨5, [51], [0], [], [500000], []⟩, ⟨6, [52], [9], [], [], []⟩, ⟨7, [53], [52], [6], [], []⟩, ⟨8, [54], [51, 53], [5, 7], [0], []⟩, ⟨9, [55], [54], [8], [0], []⟩, ⟨10, [56], [0], [], [500000], []⟩, ⟨11, [57], [9], [], [], []⟩, ⟨12, [58], [56, 57], [10, 11], [0], []⟩, ⟨13, [59], [58], [12], [0], []⟩, ⟨14, [60], [46, 47], [0, 1, 0, 1, 5, 6, 7, 8, 9, 13], [0], []⟩, ⟨15, [], [60, 55], [14, 9, 0, 1, 5, 6, 7, 8, 9, 13], [0], [0]⟩, ⟨16, [61], [48, 50], [2, 4, 0, 1, 2, 3, 4, 5, 6, 7, 8, 9, 10, 11, 12, 13, 14, 15], [0], []⟩, ⟨17, [], [61, 59], [16, 13, 15, 0, 1, 2, 3, 4, 5, 6, 7, 8, 9, 10, 11, 12, 13, 14, 15], [0], [0]⟩]) (.two (.x [9] ⟨[(0, .s (.ref 0 []))], [(0, (.osl (.int .i64)))]⟩) (.two .none (.leaf) (.two .none (.two .none (.leaf) (.one (.loop ⟨[(0, .s (.ref 0 [])), (11, .v (.int .i64))], [(0, (.osl (.int .i64)))]⟩ (.x 4 ⟨[(0, .s (.ref 0 []))], [(0, (.osl (.int .i64)))]⟩) (.two .none (.two .none (.leaf) (.two .none (.leaf) (.leaf))) (.two .none (.one (.two .none (.two .none (.draw [⟨0, [72], [3], [], [], []⟩, ⟨1, [73], [0], [], [500000], []⟩, ⟨2, [74], [11], [], [], []⟩, ⟨3, [75], [73, 74], [1, 2], [0], []⟩, ⟨4, [76], [75], [3], [0], []⟩, ⟨5, [77], [0], [], [500000], []⟩, ⟨6, [78], [11], [], [], []⟩, ⟨7, [79], [78], [6], [], []⟩, ⟨8, [80], [77, 79], [5, 7], [0], []⟩, ⟨9, [81], [80], [8], [0], []⟩, ⟨10, [82], [72, 76, 81], [0, 4, 9], [], []⟩, ⟨11, [83], [82], [10], [], []⟩, ⟨12, [84], [83], [11], [], []⟩]) (.two .none (.leaf) (.leaf))) (.draw [⟨0, [85], [0], [], [500000], []⟩, ⟨1, [86], [11], [], [], []⟩, ⟨2, [87], [0], [], [500000], []⟩, ⟨3, [88], [11], [], [], []⟩, ⟨4, [89], [88], [3], [], []⟩, ⟨5, [90], [0], [], [500000], []⟩, ⟨6, [91], [11], [], [], []⟩, ⟨7, [92], [91], [6], [], []⟩, ⟨8, [93], [90, 92], [5, 7], [0], []⟩, ⟨9, [94], [93], [8], [0], []⟩, ⟨10, [95], [0], [], [500000], []⟩, ⟨11, [96], [11], [], [], []⟩, ⟨12, [97], [95, 96], [10, 11], [0], []⟩, ⟨13, [98], [97], [12], [0], []⟩, ⟨14, [99], [85, 86], [0, 1, 0, 1, 5, 6, 7, 8, 9, 13], [0], []⟩, ⟨15, [], [99, 94], [14, 9, 0, 1, 5, 6, 7, 8, 9, 13], [0], [0]⟩, ⟨16, [100], [87, 89], [2, 4, 0, 1, 2, 3, 4, 5, 6, 7, 8, 9, 10, 11, 12, 13, 14, 15], [0], []⟩, ⟨17, [], [100, 98], [16, 13, 15, 0, 1, 2, 3, 4, 5, 6, 7, 8, 9, 10, 11, 12, 13, 14, 15], [0], [0]⟩]))) (.leaf)))))) (.leaf))) (.two .none (.leaf) (.two .none (.two .none (.leaf) (.one (.keep [9] (.loop ⟨[(0, .s (.ref 0 [])), (12, .v (.int .i64))], [(0, (.osl (.int .i64)))]⟩ (.x 6 ⟨[(0, .s (.ref 0 []))], [(0, (.osl (.int .i64)))]⟩) (.two .none (.two .none (.leaf) (.two .none (.leaf) (.leaf))) (.two .none (.one (.two .none (.two .none (.draw [⟨0, [112], [3], [], [], []⟩, ⟨1, [113], [0], [], [500000], []⟩, ⟨2, [114], [12], [], [], []⟩, ⟨3, [115], [113, 114], [1, 2], [0], []⟩, ⟨4, [116], [115], [3], [0], []⟩, ⟨5, [117], [0], [], [500000], []⟩, ⟨6, [118], [12], [], [], []⟩, ⟨7, [119], [118], [6], [], []⟩, ⟨8, [120], [117, 119], [5, 7], [0], []⟩, ⟨9, [121], [120], [8], [0], []⟩, ⟨10, [122], [112, 116, 121], [0, 4, 9], [], []⟩, ⟨11, [123], [122], [10], [], []⟩, ⟨12, [124], [123], [11], [], []⟩]) (.two .none (.leaf) (.leaf))) (.draw [⟨0, [125], [0], [], [500000], []⟩, ⟨1, [126], [12], [], [], []⟩, ⟨2, [127], [0], [], [500000], []⟩, ⟨3, [128], [12], [], [], []⟩, ⟨4, [129], [128], [3], [], []⟩, ⟨5, [130], [0], [], [500000], []⟩, ⟨6, [131], [12], [], [], []⟩, ⟨7, [132], [131], [6], [], []⟩, ⟨8, [133], [130, 132], [5, 7], [0], []⟩, ⟨9, [134], [133], [8], [0], []⟩, ⟨10, [135], [0], [], [500000], []⟩, ⟨11, [136], [12], [], [], []⟩, ⟨12, [137], [135, 136], [10, 11], [0], []⟩, ⟨13, [138], [137], [12], [0], []⟩, ⟨14, [139], [125, 126], [0, 1, 0, 1, 5, 6, 7, 8, 9, 13], [0], []⟩, ⟨15, [], [139, 134], [14, 9, 0, 1, 5, 6, 7, 8, 9, 13], [0], [0]⟩, ⟨16, [140], [127, 129], [2, 4, 0, 1, 2, 3, 4, 5, 6, 7, 8, 9, 10, 11, 12, 13, 14, 15], [0], []⟩, ⟨17, [], [140, 138], [16, 13, 15, 0, 1, 2, 3, 4, 5, 6, 7, 8, 9, 10, 11, 12, 13, 14, 15], [0], [0]⟩]))) (.leaf))))))) (.leaf))))))))) (.leaf)))))) (.two .none (.leaf) (.leaf)))))) Try.func96 (by kernel_rfl) (by kernel_rfl) (by kernel_rfl) Try.call96 (tbl_cons ok55x0 tbl_nil) (by intro a; kernel_rfl)
noncomputable def F97x0 : Fun := ⟨97, [.m (.osl (.int .i64)), .v (.int .i64), .v (.int .i64), .v (.int .i64), .c 55 [(.ptr .imm (.st (.pr (.slc .bor (.slc .bor (.int .i64))) .nil)))]], [(.int .i64)], d_slices_partitionEqualCmpFunc_int_rcm⟩
theorem ok97x0 : OkFun E F97x0 :=
  OkFun.of (fn := Try.f97) (rs := [.tmp 10]) ((55, F55x0) :: []) [] [] (.keep [1, 2, 3, 4] (.two .none (.leaf) (.two .none (.draw [⟨0, [13], [0], [], [500000], []⟩, ⟨1, [14], [1], [], [], []⟩, ⟨2, [15], [0], [], [500000], []⟩, ⟨3, [16], [3], [], [], []⟩, ⟨4, [17], [0], [], [500000], []⟩, ⟨5, [18], [3], [], [], []⟩, ⟨6, [19], [17, 18], [4, 5], [0], []⟩, ⟨7, [20], [19], [6], [0], []⟩, ⟨8, [21], [0], [], [500000], []⟩, ⟨9, [22], [1], [], [], []⟩, ⟨10, [23], [21, 22], [8, 9], [0], []⟩, ⟨11, [24], [23], [10], [0], []⟩, ⟨12, [25], [13, 14], [0, 1, 0, 1, 4, 5, 6, 7, 11], [0], []⟩, ⟨13, [], [25, 20], [12, 7, 0, 1, 4, 5, 6, 7, 11], [0], [0]⟩, ⟨14, [26], [15, 16], [2, 3, 0, 1, 2, 3, 4, 5, 6, 7, 8, 9, 10, 11, 12, 13], [0], []⟩, ⟨15, [], [26, 24], [14, 11, 13, 0, 1, 2, 3, 4, 5, 6, 7, 8, 9, 10, 11, 12, 13], [0], [0]⟩]) (.two .none (.leaf) (.two .none (.one (.loop ⟨[(0, .s (.ref 0 [])), (11, .v (.int .i64)), (12, .v (.int .i64))], [(0, (.osl (.int .i64)))]⟩ (.x 0 ⟨[(0, .s (.ref 0 [])), (11, .v (.int .i64))], [(0, (.osl (.int .i64)))]⟩) (.one (.two .none (.one (.keep [12] (.loop ⟨[(0, .s (.ref 0 [])), (11, .v (.int .i64))], [(0, (.osl (.int .i64)))]⟩ (.x 2 ⟨[(0, .s (.ref 0 [])), (11, .v (.int .i64))], [(0, (.osl (.int .i64)))]⟩) (.two (.xr [11] ⟨[(0, .s (.ref 0 []))], [(0, (.osl (.int .i64)))]⟩) (.two .none (.draw [⟨0, [31], [11], [], [], []⟩, ⟨1, [32], [12], [], [], []⟩, ⟨2, [33], [31, 32], [0, 1], [], []⟩, ⟨3, [34], [33], [2], [], []⟩, ⟨4, [35], [4, 34], [3], [], []⟩, ⟨5, [36], [0, 34], [3], [500000], []⟩, ⟨6, [37], [1, 34], [3], [], []⟩, ⟨7, [38], [36, 37, 34], [5, 6, 3], [0], []⟩, ⟨8, [39], [38, 34], [7, 3], [0], []⟩, ⟨9, [40], [0, 34], [3], [500000], []⟩, ⟨10, [41], [11, 34], [3], [], []⟩, ⟨11, [42], [40, 41, 34], [9, 10, 3], [0], []⟩, ⟨12, [43], [42, 34], [11, 3], [0], []⟩, ⟨13, [44], [35, 39, 43, 34], [4, 8, 12, 3, 3], [], []⟩, ⟨14, [45], [44, 34], [13, 3], [], []⟩, ⟨15, [46], [45, 34], [14, 3], [], []⟩, ⟨16, [47], [34, 46], [3, 15], [], []⟩]) (.two .none (.leaf) (.leaf))) (.one (.leaf)))))) (.two .none (.one (.keep [11] (.loop ⟨[(0, .s (.ref 0 [])), (12, .v (.int .i64))], [(0, (.osl (.int .i64)))]⟩ (.x 4 ⟨[(0, .s (.ref 0 [])), (12, .v (.int .i64))], [(0, (.osl (.int .i64)))]⟩) (.two (.xr [12] ⟨[(0, .s (.ref 0 []))], [(0, (.osl (.int .i64)))]⟩) (.two .none (.draw [⟨0, [50], [11], [], [], []⟩, ⟨1, [51], [12], [], [], []⟩, ⟨2, [52], [50, 51], [0, 1], [], []⟩, ⟨3, [53], [52], [2], [], []⟩, ⟨4, [54], [4, 53], [3], [], []⟩, ⟨5, [55], [0, 53], [3], [500000], []⟩, ⟨6, [56], [1, 53], [3], [], []⟩, ⟨7, [57], [55, 56, 53], [5, 6, 3], [0], []⟩, ⟨8, [58], [57, 53], [7, 3], [0], []⟩, ⟨9, [59], [0, 53], [3], [500000], []⟩, ⟨10, [60], [12, 53], [3], [], []⟩, ⟨11, [61], [59, 60, 53], [9, 10, 3], [0], []⟩, ⟨12, [62], [61, 53], [11, 3], [0], []⟩, ⟨13, [63], [54, 58, 62, 53], [4, 8, 12, 3, 3], [], []⟩, ⟨14, [64], [63, 53], [13, 3], [], []⟩, ⟨15, [65], [53, 64], [3, 14], [], []⟩]) (.two .none (.leaf) (.leaf))) (.one (.leaf)))))) (.two .none (.two .none (.leaf) (.two .none (.leaf) (.leaf))) (.two .none (.draw [⟨0, [71], [0], [], [500000], []⟩, ⟨1, [72], [11], [], [], []⟩, ⟨2, [73], [0], [], [500000], []⟩, ⟨3, [74], [12], [], [], []⟩, ⟨4, [75], [0], [], [500000], []⟩, ⟨5, [76], [12], [], [], []⟩, ⟨6, [77], [75, 76], [4, 5], [0], []⟩, ⟨7, [78], [77], [6], [0], []⟩, ⟨8, [79], [0], [], [500000], []⟩, ⟨9, [80], [11], [], [], []⟩, ⟨10, [81], [79, 80], [8, 9], [0], []⟩, ⟨11, [82], [81], [10], [0], []⟩, ⟨12, [83], [71, 72], [0, 1, 0, 1, 4, 5, 6, 7, 11], [0], []⟩, ⟨13, [], [83, 78], [12, 7, 0, 1, 4, 5, 6, 7, 11], [0], [0]⟩, ⟨14, [84], [73, 74], [2, 3, 0, 1, 2, 3, 4, 5, 6, 7, 8, 9, 10, 11, 12, 13], [0], []⟩, ⟨15, [], [84, 82], [14, 11, 13, 0, 1, 2, 3, 4, 5, 6, 7, 8, 9, 10, 11, 12, 13], [0], [0]⟩]) (.two .none (.leaf) (.leaf))))))))) (.two .none (.leaf) (.leaf))))))) Try.func97 (by kernel_rfl) (by kernel_rfl) (by kernel_rfl) Try.call97 (tbl_cons ok55x0 tbl_nil) (by intro a; kernel_rfl)
noncomputable def F98x0 : Fun := ⟨98, [.m (.osl (.int .i64)), .v (.int .i64), .v (.int .i64), .v (.int .i64), .c 55 [(.ptr .imm (.st (.pr (.slc .bor (.slc .bor (.int .i64))) .nil)))]], [(.int .i64), .bool], d_slices_partitionCmpFunc_int_rcm⟩
theorem ok98x0 : OkFun E F98x0 :=
  OkFun.of (fn := Try.f98) (rs := [.tmp 10, .tmp 11]) ((55, F55x0) :: []) [] [] (.keep [1, 2, 3, 4] (.two .none (.leaf) (.two .none (.draw [⟨0, [14], [0], [], [500000], []⟩, ⟨1, [15], [1], [], [], []⟩, ⟨2, [16], [0], [], [500000], []⟩, ⟨3, [17], [3], [], [], []⟩, ⟨4, [18], [0], [], [500000], []⟩, ⟨5, [19], [3], [], [], []⟩, ⟨6, [20], [18, 19], [4, 5], [0], []⟩, ⟨7, [21], [20], [6], [0], []⟩, ⟨8, [22], [0], [], [500000], []⟩, ⟨9, [23], [1], [], [], []⟩, ⟨10, [24], [22, 23], [8, 9], [0], []⟩, ⟨11, [25], [24], [10], [0], []⟩, ⟨12, [26], [14, 15], [0, 1, 0, 1, 4, 5, 6, 7, 11], [0], []⟩, ⟨13, [], [26, 21], [12, 7, 0, 1, 4, 5, 6, 7, 11], [0], [0]⟩, ⟨14, [27], [16, 17], [2, 3, 0, 1, 2, 3, 4, 5, 6, 7, 8, 9, 10, 11, 12, 13], [0], []⟩, ⟨15, [], [27, 25], [14, 11, 13, 0, 1, 2, 3, 4, 5, 6, 7, 8, 9, 10, 11, 12, 13], [0], [0]⟩]) (.two .none (.leaf) (.two .none (.one (.keep [13] (.loop ⟨[(0, .s (.ref 0 [])), (12, .v (.int .i64))], [(0, (.osl (.int .i64)))]⟩ (.x 0 ⟨[(0, .s (.ref 0 [])), (12, .v (.int .i64))], [(0, (.osl (.int .i64)))]⟩) (.two (.xr [12] ⟨[(0, .s (.ref 0 []))], [(0, (.osl (.int .i64)))]⟩) (.two .none (.draw [⟨0, [32], [12], [], [], []⟩, ⟨1, [33], [13], [], [], []⟩, ⟨2, [34], [32, 33], [0, 1], [], []⟩, ⟨3, [35], [34], [2], [], []⟩, ⟨4, [36], [4, 35], [3], [], []⟩, ⟨5, [37], [0, 35], [3], [500000], []⟩, ⟨6, [38], [12, 35], [3], [], []⟩, ⟨7, [39], [37, 38, 35], [5, 6, 3], [0], []⟩, ⟨8, [40], [39, 35], [7, 3], [0], []⟩, ⟨9, [41], [0, 35], [3], [500000], []⟩, ⟨10, [42], [1, 35], [3], [], []⟩, ⟨11, [43], [41, 42, 35], [9, 10, 3], [0], []⟩, ⟨12, [44], [43, 35], [11, 3], [0], []⟩, ⟨13, [45], [36, 40, 44, 35], [4, 8, 12, 3, 3], [], []⟩, ⟨14, [46], [45, 35], [13, 3], [], []⟩, ⟨15, [47], [35, 46], [3, 14], [], []⟩]) (.two .none (.leaf) (.leaf))) (.one (.leaf)))))) (.two .none (.one (.keep [12] (.loop ⟨[(0, .s (.ref 0 [])), (13, .v (.int .i64))], [(0, (.osl (.int .i64)))]⟩ (.x 2 ⟨[(0, .s (.ref 0 [])), (13, .v (.int .i64))], [(0, (.osl (.int .i64)))]⟩) (.two (.xr [13] ⟨[(0, .s (.ref 0 []))], [(0, (.osl (.int .i64)))]⟩) (.two .none (.draw [⟨0, [50], [12], [], [], []⟩, ⟨1, [51], [13], [], [], []⟩, ⟨2, [52], [50, 51], [0, 1], [], []⟩, ⟨3, [53], [52], [2], [], []⟩, ⟨4, [54], [4, 53], [3], [], []⟩, ⟨5, [55], [0, 53], [3], [500000], []⟩, ⟨6, [56], [13, 53], [3], [], []⟩, ⟨7, [57], [55, 56, 53], [5, 6, 3], [0], []⟩, ⟨8, [58], [57, 53], [7, 3], [0], []⟩, ⟨9, [59], [0, 53], [3], [500000], []⟩, ⟨10, [60], [1, 53], [3], [], []⟩, ⟨11, [61], [59, 60, 53], [9, 10, 3], [0], []⟩, ⟨12, [62], [61, 53], [11, 3], [0], []⟩, ⟨13, [63], [54, 58, 62, 53], [4, 8, 12, 3, 3], [], []⟩, ⟨14, [64], [63, 53], [13, 3], [], []⟩, ⟨15, [65], [64, 53], [14, 3], [], []⟩, ⟨16, [66], [53, 65], [3, 15], [], []⟩]) (.two .none (.leaf) (.leaf))) (.one (.leaf)))))) (.two .none (.two .none (.leaf) (.two .none (.two .none (.draw [⟨0, [72], [0], [], [500000], []⟩, ⟨1, [73], [13], [], [], []⟩, ⟨2, [74], [0], [], [500000], []⟩, ⟨3, [75], [1], [], [], []⟩, ⟨4, [76], [0], [], [500000], []⟩, ⟨5, [77], [1], [], [], []⟩, ⟨6, [78], [76, 77], [4, 5], [0], []⟩, ⟨7, [79], [78], [6], [0], []⟩, ⟨8, [80], [0], [], [500000], []⟩, ⟨9, [81], [13], [], [], []⟩, ⟨10, [82], [80, 81], [8, 9], [0], []⟩, ⟨11, [83], [82], [10], [0], []⟩, ⟨12, [84], [72, 73], [0, 1, 0, 1, 4, 5, 6, 7, 11], [0], []⟩, ⟨13, [], [84, 79], [12, 7, 0, 1, 4, 5, 6, 7, 11], [0], [0]⟩, ⟨14, [85], [74, 75], [2, 3, 0, 1, 2, 3, 4, 5, 6, 7, 8, 9, 10, 11, 12, 13], [0], []⟩, ⟨15, [], [85, 83], [14, 11, 13, 0, 1, 2, 3, 4, 5, 6, 7, 8, 9, 10, 11, 12, 13], [0], [0]⟩]) (.two .none (.leaf) (.leaf))) (.leaf))) (.two .none (.draw [⟨0, [87], [0], [], [500000], []⟩, ⟨1, [88], [12], [], [], []⟩, ⟨2, [89], [0], [], [500000], []⟩, ⟨3, [90], [13], [], [], []⟩, ⟨4, [91], [0], [], [500000], []⟩, ⟨5, [92], [13], [], [], []⟩, ⟨6, [93], [91, 92], [4, 5], [0], []⟩, ⟨7, [94], [93], [6], [0], []⟩, ⟨8, [95], [0], [], [500000], []⟩, ⟨9, [96], [12], [], [], []⟩, ⟨10, [97], [95, 96], [8, 9], [0], []⟩, ⟨11, [98], [97], [10], [0], []⟩, ⟨12, [99], [87, 88], [0, 1, 0, 1, 4, 5, 6, 7, 11], [0], []⟩, ⟨13, [], [99, 94], [12, 7, 0, 1, 4, 5, 6, 7, 11], [0], [0]⟩, ⟨14, [100], [89, 90], [2, 3, 0, 1, 2, 3, 4, 5, 6, 7, 8, 9, 10, 11, 12, 13], [0], []⟩, ⟨15, [], [100, 98], [14, 11, 13, 0, 1, 2, 3, 4, 5, 6, 7, 8, 9, 10, 11, 12, 13], [0], [0]⟩]) (.two .none (.leaf) (.two .none (.leaf) (.two .none (.one (.loop ⟨[(0, .s (.ref 0 [])), (12, .v (.int .i64)), (13, .v (.int .i64))], [(0, (.osl (.int .i64)))]⟩ (.x 4 ⟨[(0, .s (.ref 0 [])), (13, .v (.int .i64))], [(0, (.osl (.int .i64)))]⟩) (.one (.two .none (.one (.keep [13] (.loop ⟨[(0, .s (.ref 0 [])), (12, .v (.int .i64))], [(0, (.osl (.int .i64)))]⟩ (.x 6 ⟨[(0, .s (.ref 0 [])), (12, .v (.int .i64))], [(0, (.osl (.int .i64)))]⟩) (.two (.xr [12] ⟨[(0, .s (.ref 0 []))], [(0, (.osl (.int .i64)))]⟩) (.two .none (.draw [⟨0, [105], [12], [], [], []⟩, ⟨1, [106], [13], [], [], []⟩, ⟨2, [107], [105, 106], [0, 1], [], []⟩, ⟨3, [108], [107], [2], [], []⟩, ⟨4, [109], [4, 108], [3], [], []⟩, ⟨5, [110], [0, 108], [3], [500000], []⟩, ⟨6, [111], [12, 108], [3], [], []⟩, ⟨7, [112], [110, 111, 108], [5, 6, 3], [0], []⟩, ⟨8, [113], [112, 108], [7, 3], [0], []⟩, ⟨9, [114], [0, 108], [3], [500000], []⟩, ⟨10, [115], [1, 108], [3], [], []⟩, ⟨11, [116], [114, 115, 108], [9, 10, 3], [0], []⟩, ⟨12, [117], [116, 108], [11, 3], [0], []⟩, ⟨13, [118], [109, 113, 117, 108], [4, 8, 12, 3, 3], [], []⟩, ⟨14, [119], [118, 108], [13, 3], [], []⟩, ⟨15, [120], [108, 119], [3, 14], [], []⟩]) (.two .none (.leaf) (.leaf))) (.one (.leaf)))))) (.two .none (.one (.keep [12] (.loop ⟨[(0, .s (.ref 0 [])), (13, .v (.int .i64))], [(0, (.osl (.int .i64)))]⟩ (.x 8 ⟨[(0, .s (.ref 0 [])), (13, .v (.int .i64))], [(0, (.osl (.int .i64)))]⟩) (.two (.xr [13] ⟨[(0, .s (.ref 0 []))], [(0, (.osl (.int .i64)))]⟩) (.two .none (.draw [⟨0, [123], [12], [], [], []⟩, ⟨1, [124], [13], [], [], []⟩, ⟨2, [125], [123, 124], [0, 1], [], []⟩, ⟨3, [126], [125], [2], [], []⟩, ⟨4, [127], [4, 126], [3], [], []⟩, ⟨5, [128], [0, 126], [3], [500000], []⟩, ⟨6, [129], [13, 126], [3], [], []⟩, ⟨7, [130], [128, 129, 126], [5, 6, 3], [0], []⟩, ⟨8, [131], [130, 126], [7, 3], [0], []⟩, ⟨9, [132], [0, 126], [3], [500000], []⟩, ⟨10, [133], [1, 126], [3], [], []⟩, ⟨11, [134], [132, 133, 126], [9, 10, 3], [0], []⟩, ⟨12, [135], [134, 126], [11, 3], [0], []⟩, ⟨13, [136], [127, 131, 135, 126], [4, 8, 12, 3, 3], [], []⟩, ⟨14, [137], [136, 126], [13, 3], [], []⟩, ⟨15, [138], [137, 126], [14, 3], [], []⟩, ⟨16, [139], [126, 138], [3, 15], [], []⟩]) (.two .none (.leaf) (.leaf))) (.one (.leaf)))))) (.two .none (.two .none (.leaf) (.two .none (.leaf) (.leaf))) (.two .none (.draw [⟨0, [145], [0], [], [500000], []⟩, ⟨1, [146], [12], [], [], []⟩, ⟨2, [147], [0], [], [500000], []⟩, ⟨3, [148], [13], [], [], []⟩, ⟨4, [149], [0], [], [500000], []⟩, ⟨5, [150], [13], [], [], []⟩, ⟨6, [151], [149, 150], [4, 5], [0], []⟩, ⟨7, [152], [151], [6], [0], []⟩, ⟨8, [153], [0], [], [500000], []⟩, ⟨9, [154], [12], [], [], []⟩, ⟨10, [155], [153, 154], [8, 9], [0], []⟩, ⟨11, [156], [155], [10], [0], []⟩, ⟨12, [157], [145, 146], [0, 1, 0, 1, 4, 5, 6, 7, 11], [0], []⟩, ⟨13, [], [157, 152], [12, 7, 0, 1, 4, 5, 6, 7, 11], [0], [0]⟩, ⟨14, [158], [147, 148], [2, 3, 0, 1, 2, 3, 4, 5, 6, 7, 8, 9, 10, 11, 12, 13], [0], []⟩, ⟨15, [], [158, 156], [14, 11, 13, 0, 1, 2, 3, 4, 5, 6, 7, 8, 9, 10, 11, 12, 13], [0], [0]⟩]) (.two .none (.leaf) (.leaf))))))))) (.two .none (.draw [⟨0, [163], [0], [], [500000], []⟩, ⟨1, [164], [13], [], [], []⟩, ⟨2, [165], [0], [], [500000], []⟩, ⟨3, [166], [1], [], [], []⟩, ⟨4, [167], [0], [], [500000], []⟩, ⟨5, [168], [1], [], [], []⟩, ⟨6, [169], [167, 168], [4, 5], [0], []⟩, ⟨7, [170], [169], [6], [0], []⟩, ⟨8, [171], [0], [], [500000], []⟩, ⟨9, [172], [13], [], [], []⟩, ⟨10, [173], [171, 172], [8, 9], [0], []⟩, ⟨11, [174], [173], [10], [0], []⟩, ⟨12, [175], [163, 164], [0, 1, 0, 1, 4, 5, 6, 7, 11], [0], []⟩, ⟨13, [], [175, 170], [12, 7, 0, 1, 4, 5, 6, 7, 11], [0], [0]⟩, ⟨14, [176], [165, 166], [2, 3, 0, 1, 2, 3, 4, 5, 6, 7, 8, 9, 10, 11, 12, 13], [0], []⟩, ⟨15, [], [176, 174], [14, 11, 13, 0, 1, 2, 3, 4, 5, 6, 7, 8, 9, 10, 11, 12, 13], [0], [0]⟩]) (.two .none (.leaf) (.leaf)))))))))))))) Try.func98 (by kernel_rfl) (by kernel_rfl) (by kernel_rfl) Try.call98 (tbl_cons ok55x0 tbl_nil) (by intro a; kernel_rfl)
noncomputable def F72x0n (n : Nat) : Fun := ⟨72, [.m (.osl (.int .i64)), .v (.int .i64), .v (.int .i64), .v (.int .i64), .c 55 [(.ptr .imm (.st (.pr (.slc .bor (.slc .bor (.int .i64))) .nil)))]], [], r_slices_pdqsortCmpFunc_int_rcm n⟩
theorem ok72x0n : ∀ n, OkFun E (F72x0n n)
  | 0 => ⟨Try.call72, fun _ _ h => by cases h⟩
  | n + 1 =>
    OkFun.of (fn := Try.f72) (rs := []) ((72, F72x0n n) :: (98, F98x0) :: (97, F97x0) :: (96, F96x0) :: (95, F95x0) :: (94, F94x0) :: (93, F93x0) :: (92, F92x0) :: (91, F91x0) :: (55, F55x0) :: []) [] [] (.keep [4] (.two .none (.leaf) (.two .none (.leaf) (.one (.loop ⟨[(0, .s (.ref 0 [])), (1, .v (.int .i64)), (2, .v (.int .i64)), (3, .v (.int .i64)), (10, .v .bool), (11, .v .bool)], [(0, (.osl (.int .i64)))]⟩ .r (.one (.two .none (.leaf) (.two .none (.two .none (.leaf) (.two .none (.two .none (.leaf) (.leaf)) (.leaf))) (.two .none (.two .none (.leaf) (.two .none (.two .none (.leaf) (.leaf)) (.leaf))) (.two (.x [1, 2, 10, 11, 12] ⟨[(0, .s (.ref 0 [])), (3, .v (.int .i64))], [(0, (.osl (.int .i64)))]⟩) (.two .none (.leaf) (.two .none (.two .none (.leaf) (.leaf)) (.leaf))) (.two .none (.leaf) (.two (.x [1, 2, 3, 10, 11, 12] ⟨[(0, .s (.ref 0 [])), (13, .v (.int .i64)), (14, .v (.int .i64))], [(0, (.osl (.int .i64)))]⟩) (.two .none (.leaf) (.two .none (.two .none (.leaf) (.two .none (.leaf) (.leaf))) (.leaf))) (.two (.xr [1, 2, 3, 10, 11, 12, 13] ⟨[(0, .s (.ref 0 []))], [(0, (.osl (.int .i64)))]⟩) (.two (.x [] ⟨[(0, .s (.ref 0 [])), (75, .v .bool)], [(0, (.osl (.int .i64)))]⟩) (.leaf) (.two .none (.two .none (.leaf) (.two .none (.leaf) (.leaf))) (.leaf))) (.two (.xr [2, 3, 12, 13] ⟨[(0, .s (.ref 0 [])), (1, .v (.int .i64))], [(0, (.osl (.int .i64)))]⟩) (.two (.x [1, 10, 11] ⟨[(0, .s (.ref 0 [])), (97, .v .bool)], [(0, (.osl (.int .i64)))]⟩) (.draw [⟨0, [81], [1], [], [], []⟩, ⟨1, [82], [81], [0], [], []⟩, ⟨2, [83], [82], [1], [], []⟩, ⟨3, [84], [4, 83], [2], [], []⟩, ⟨4, [85], [0, 83], [2], [500000], []⟩, ⟨5, [86], [1, 83], [2], [], []⟩, ⟨6, [87], [86, 83], [5, 2], [], []⟩, ⟨7, [88], [85, 87, 83], [4, 6, 2], [0], []⟩, ⟨8, [89], [88, 83], [7, 2], [0], []⟩, ⟨9, [90], [0, 83], [2], [500000], []⟩, ⟨10, [91], [13, 83], [2], [], []⟩, ⟨11, [92], [90, 91, 83], [9, 10, 2], [0], []⟩, ⟨12, [93], [92, 83], [11, 2], [0], []⟩, ⟨13, [94], [84, 89, 93, 83], [3, 8, 12, 2, 2], [], []⟩, ⟨14, [95], [94, 83], [13, 2], [], []⟩, ⟨15, [96], [95, 83], [14, 2], [], []⟩, ⟨16, [97], [83, 96], [2, 15], [], []⟩]) (.two .none (.two .none (.leaf) (.two .none (.leaf) (.leaf))) (.leaf))) (.two .none (.leaf) (.two .none (.leaf) (.two .none (.leaf) (.two .none (.leaf) (.two .none (.leaf) (.two .none (.two .none (.leaf) (.two .none (.leaf) (.leaf))) (.two .none (.leaf) (.two .none (.leaf) (.leaf))))))))))))))))))))))) Try.func72 (by kernel_rfl) (by kernel_rfl) (by kernel_rfl) Try.call72 (tbl_cons (ok72x0n n) (tbl_cons ok98x0 (tbl_cons ok97x0 (tbl_cons ok96x0 (tbl_cons ok95x0 (tbl_cons ok94x0 (tbl_cons ok93x0 (tbl_cons ok92x0 (tbl_cons ok91x0 (tbl_cons ok55x0 tbl_nil)))))))))) (by intro a; kernel_rfl)
noncomputable def F72x0 : Fun := ⟨72, [.m (.osl (.int .i64)), .v (.int .i64), .v (.int .i64), .v (.int .i64), .c 55 [(.ptr .imm (.st (.pr (.slc .bor (.slc .bor (.int .i64))) .nil)))]], [], d_slices_pdqsortCmpFunc_int_rcm⟩
theorem ok72x0 : OkFun E F72x0 := fixO_ok ok72x0n
noncomputable def F54x0 : Fun := ⟨54, [.m (.osl (.int .i64)), .c 55 [(.ptr .imm (.st (.pr (.slc .bor (.slc .bor (.int .i64))) .nil)))]], [], d_slices_SortFunc_int_int_rcm⟩
theorem ok54x0 : OkFun E F54x0 :=
  OkFun.of (fn := Try.f54) (rs := []) ((65, F65) :: (72, F72x0) :: []) [] [] (.keep [1] (.two .none (.leaf) (.leaf))) Try.func54 (by kernel_rfl) (by kernel_rfl) (by kernel_rfl) Try.call54 (tbl_cons ok65 (tbl_cons ok72x0 tbl_nil)) (by intro a; kernel_rfl)
noncomputable def F33 : Fun := ⟨33, [.v (.st (.pr (.slc .bor (.slc .bor (.int .i64))) .nil)), .v (.int .i64), .o (.osl (.int .i64)), .m (.osl .bool)], [(.osl (.int .i64))], d_rcm_grow⟩
theorem ok33 : OkFun E F33 :=
  OkFun.of (fn := Try.f33) (rs := [.tmp 8]) ((54, F54x0) :: []) [(4, (.ptr .imm (.st (.pr (.slc .bor (.slc .bor (.int .i64))) .nil)))), (10, (.osl (.int .i64)))] [] (.keep [0, 1] (.two .none (.leaf) (.two .none (.leaf) (.two .none (.leaf) (.two .none (.one (.keep [4] (.loop ⟨[(2, .s (.ref 2 [])), (3, .s (.ref 3 [])), (9, .v (.int .i64))], [(2, (.osl (.int .i64))), (3, (.osl .bool))]⟩ (.x 0 ⟨[(2, .s (.ref 2 [])), (3, .s (.ref 3 []))], [(2, (.osl (.int .i64))), (3, (.osl .bool))]⟩) (.two .none (.two .none (.leaf) (.two .none (.leaf) (.leaf))) (.two .none (.one (.two .none (.leaf) (.two .none (.two .none (.draw [⟨0, [28], [4], [], [], []⟩, ⟨1, [29], [28], [0], [], []⟩, ⟨2, [30], [2], [], [500002], []⟩, ⟨3, [31], [9], [], [], []⟩, ⟨4, [32], [30, 31], [2, 3], [2], []⟩, ⟨5, [33], [32], [4], [2], []⟩, ⟨6, [34], [29, 33], [1, 5], [], []⟩, ⟨7, [35], [34], [6], [], []⟩, ⟨8, [36], [35], [7], [], []⟩, ⟨9, [37], [], [], [], []⟩]) (.one (.keep [9, 35, 36] (.loop ⟨[(2, .s (.ref 2 [])), (3, .s (.ref 3 [])), (10, .s (.ref 10 [])), (37, .v (.int .i64))], [(2, (.osl (.int .i64))), (3, (.osl .bool)), (10, (.osl (.int .i64)))]⟩ (.x 2 ⟨[(2, .s (.ref 2 [])), (3, .s (.ref 3 [])), (10, .s (.ref 10 []))], [(2, (.osl (.int .i64))), (3, (.osl .bool)), (10, (.osl (.int .i64)))]⟩) (.two .none (.leaf) (.two .none (.two .none (.leaf) (.leaf)) (.two (.x [37] ⟨[(2, .s (.ref 2 [])), (3, .s (.ref 3 [])), (10, .s (.ref 10 []))], [(2, (.osl (.int .i64))), (3, (.osl .bool)), (10, (.osl (.int .i64)))]⟩) (.one (.two .none (.leaf) (.two .none (.leaf) (.two .none (.two .none (.leaf) (.leaf)) (.leaf))))) (.leaf)))))))) (.two .none (.leaf) (.leaf))))) (.leaf)))))) (.two .none (.leaf) (.leaf))))))) Try.func33 (by kernel_rfl) (by kernel_rfl) (by kernel_rfl) Try.call33 (tbl_cons ok54x0 tbl_nil) (by intro a; kernel_rfl)
noncomputable def F34 : Fun := ⟨34, [.m (.osl (.int .i64))], [], d_slices_Reverse_int_int⟩
theorem ok34 : OkFun E F34 :=
  OkFun.of (fn := Try.f34) (rs := []) ([]) [] [] (.two .none (.leaf) (.one (.loop ⟨[(0, .s (.ref 0 [])), (2, .v (.int .i64)), (3, .v (.int .i64))], [(0, (.osl (.int .i64)))]⟩ (.x 0 ⟨[(0, .s (.ref 0 []))], [(0, (.osl (.int .i64)))]⟩) (.two .none (.two .none (.leaf) (.two .none (.leaf) (.leaf))) (.two .none (.one (.draw [⟨0, [14], [0], [], [500000], []⟩, ⟨1, [15], [2], [], [], []⟩, ⟨2, [16], [0], [], [500000], []⟩, ⟨3, [17], [3], [], [], []⟩, ⟨4, [18], [0], [], [500000], []⟩, ⟨5, [19], [3], [], [], []⟩, ⟨6, [20], [18, 19], [4, 5], [0], []⟩, ⟨7, [21], [20], [6], [0], []⟩, ⟨8, [22], [0], [], [500000], []⟩, ⟨9, [23], [2], [], [], []⟩, ⟨10, [24], [22, 23], [8, 9], [0], []⟩, ⟨11, [25], [24], [10], [0], []⟩, ⟨12, [26], [14, 15], [0, 1, 0, 1, 4, 5, 6, 7, 11], [0], []⟩, ⟨13, [], [26, 21], [12, 7, 0, 1, 4, 5, 6, 7, 11], [0], [0]⟩, ⟨14, [27], [16, 17], [2, 3, 0, 1, 2, 3, 4, 5, 6, 7, 8, 9, 10, 11, 12, 13], [0], []⟩, ⟨15, [], [27, 25], [14, 11, 13, 0, 1, 2, 3, 4, 5, 6, 7, 8, 9, 10, 11, 12, 13], [0], [0]⟩])) (.leaf)))))) Try.func34 (by kernel_rfl) (by kernel_rfl) (by kernel_rfl) Try.call34 tbl_nil (by intro a; kernel_rfl)
noncomputable def F12 : Fun := ⟨12, [.v (.st (.pr (.slc .bor (.slc .bor (.int .i64))) .nil))], [(.osl (.int .i64)), (.int .i64)], d_rcm_Order⟩
theorem ok12 : OkFun E F12 :=
  OkFun.of (fn := Try.f12) (rs := [.tmp 2, .tmp 3]) ((34, F34) :: (33, F33) :: (32, F32) :: (19, F19) :: (17, F17) :: []) [(1, (.ptr .imm (.st (.pr (.slc .bor (.slc .bor (.int .i64))) .nil)))), (17, (.osl .bool)), (5, (.osl (.int .i64))), (2, (.osl (.int .i64)))] [] (.keep [0] (.two .none (.leaf) (.two .none (.leaf) (.two .none (.two .none (.leaf) (.two .none (.two .none (.leaf) (.leaf)) (.leaf))) (.two .none (.leaf) (.two .none (.leaf) (.two .none (.two .none (.leaf) (.one (.keep [1, 20] (.loop ⟨[(5, .s (.ref 5 [])), (6, .s (.ref 6 [])), (19, .s (.ref 19 [])), (21, .v (.int .i64))], [(5, (.osl (.int .i64))), (6, (.osl .bool)), (19, (.osl (.slc .imm (.int .i64))))]⟩ (.x 0 ⟨[(5, .s (.ref 5 []))], [(5, (.osl (.int .i64)))]⟩) (.two .none (.leaf) (.two .none (.two .none (.leaf) (.leaf)) (.two .none (.one (.two .none (.leaf) (.draw [⟨0, [25], [1], [], [], []⟩, ⟨1, [26], [1], [], [], []⟩, ⟨2, [27], [8], [], [], []⟩, ⟨3, [28], [27], [2], [], []⟩, ⟨4, [29], [28], [3], [], []⟩, ⟨5, [30], [26, 29], [1, 4], [], []⟩, ⟨6, [31], [5], [], [500005], []⟩, ⟨7, [32], [6], [], [500006], []⟩, ⟨8, [33], [25, 30, 31, 32], [0, 5, 6, 7, 5], [5, 6, 33], [5, 6, 33, 500005]⟩, ⟨9, [5], [33], [8, 8, 0, 1, 2, 3, 4, 5, 6, 7, 8], [5, 33], [5, 33, 500005, 500033]⟩]))) (.leaf)))))))) (.two .none (.leaf) (.two .none (.leaf) (.leaf)))))))))) Try.func12 (by kernel_rfl) (by kernel_rfl) (by kernel_rfl) Try.call12 (tbl_cons ok34 (tbl_cons ok33 (tbl_cons ok32 (tbl_cons ok19 (tbl_cons ok17 tbl_nil))))) (by intro a; kernel_rfl)
noncomputable def F62 : Fun := ⟨62, [.v (.slc .bor (.int .i64))], [.bool], d_graph_twice⟩
theorem ok62 : OkFun E F62 := Tw.tw_ok rfl (sort := fun l => (d_slices_Sort_int_int (l, ())).map fun r => r.1) (fun zs ys h => by obtain ⟨r, hr, rfl⟩ := Option.map_eq_some_iff.1 h; exact ok41.2 (zs, ()) r hr)
noncomputable def F61x0 : Fun := ⟨61, [.v (.int .i64), .v (.ptr .imm (.st (.pr (.slc .bor (.slc .bor (.int .i64))) .nil)))], [.bool], d_graph_Permuted_1q_q0⟩
theorem ok61x0 : OkFun E F61x0 :=
  OkFun.of (fn := Try.f61) (rs := [.tmp 3]) ((42, F42) :: []) [] [] (.keep [0, 1] (.two .none (.leaf) (.two .none (.leaf) (.leaf)))) Try.func61 (by kernel_rfl) (by kernel_rfl) (by kernel_rfl) Try.call61 (tbl_cons ok42 tbl_nil) (by intro a; kernel_rfl)
noncomputable def F74x0 : Fun := ⟨74, [.v (.slc .bor (.int .i64)), .c 61 [(.ptr .imm (.st (.pr (.slc .bor (.slc .bor (.int .i64))) .nil)))]], [(.int .i64)], d_slices_IndexFunc_int_int_q0⟩
theorem ok74x0 : OkFun E F74x0 :=
  OkFun.of (fn := Try.f74) (rs := [.tmp 4]) ((61, F61x0) :: []) [] [] (.keep [0, 1] (.two .none (.leaf) (.two .none (.two .none (.leaf) (.one (.keep [7] (.loop ⟨[(8, .v (.int .i64))], []⟩ (.xr 0 ⟨[], []⟩) (.two .none (.leaf) (.two .none (.two .none (.leaf) (.leaf)) (.two .none (.one (.two .none (.leaf) (.two .none (.leaf) (.two .none (.two .none (.leaf) (.leaf)) (.leaf))))) (.leaf)))))))) (.two .none (.leaf) (.leaf))))) Try.func74 (by kernel_rfl) (by kernel_rfl) (by kernel_rfl) Try.call74 (tbl_cons ok61x0 tbl_nil) (by intro a; kernel_rfl)
noncomputable def F60x0 : Fun := ⟨60, [.v (.slc .bor (.int .i64)), .c 61 [(.ptr .imm (.st (.pr (.slc .bor (.slc .bor (.int .i64))) .nil)))]], [.bool], d_slices_ContainsFunc_int_int_q0⟩
theorem ok60x0 : OkFun E F60x0 :=
  OkFun.of (fn := Try.f60) (rs := [.tmp 4]) ((74, F74x0) :: []) [] [] (.keep [0, 1] (.two .none (.leaf) (.two .none (.leaf) (.leaf)))) Try.func60 (by kernel_rfl) (by kernel_rfl) (by kernel_rfl) Try.call60 (tbl_cons ok74x0 tbl_nil) (by intro a; kernel_rfl)
noncomputable def F37 : Fun := ⟨37, [.v (.st (.pr (.slc .bor (.slc .bor (.int .i64))) .nil)), .v (.slc .bor (.int .i64))], [(.int .i64)], d_graph_Permuted⟩
theorem ok37 : OkFun E F37 :=
  OkFun.of (fn := Try.f37) (rs := [.tmp 4]) ((62, F62) :: (32, F32) :: (60, F60x0) :: []) [(2, (.ptr .imm (.st (.pr (.slc .bor (.slc .bor (.int .i64))) .nil))))] [] (.keep [0, 1] (.two .none (.leaf) (.two .none (.leaf) (.two .none (.one (.two .none (.leaf) (.two .none (.two .none (.leaf) (.leaf)) (.two .none (.leaf) (.two .none (.two .none (.leaf) (.leaf)) (.two .none (.leaf) (.two .none (.two .none (.leaf) (.leaf)) (.leaf)))))))) (.two .none (.leaf) (.leaf)))))) Try.func37 (by kernel_rfl) (by kernel_rfl) (by kernel_rfl) Try.call37 (tbl_cons ok62 (tbl_cons ok32 (tbl_cons ok60x0 tbl_nil))) (by intro a; kernel_rfl)
noncomputable def F38 : Fun := ⟨38, [.v (.slc .bor (.int .i64))], [(.osl (.int .i64))], d_rcm_positions⟩
theorem ok38 : OkFun E F38 :=
  OkFun.of (fn := Try.f38) (rs := [.tmp 2]) ([]) [(8, (.osl (.int .i64)))] [] (.keep [0] (.two .none (.leaf) (.two .none (.leaf) (.two .none (.two .none (.leaf) (.one (.keep [9, 10] (.loop ⟨[(3, .s (.ref 3 [])), (11, .v (.int .i64))], [(3, (.osl (.int .i64)))]⟩ (.x 0 ⟨[(3, .s (.ref 3 []))], [(3, (.osl (.int .i64)))]⟩) (.two .none (.leaf) (.two .none (.two .none (.leaf) (.leaf)) (.two .none (.one (.two .none (.leaf) (.leaf))) (.leaf)))))))) (.two .none (.leaf) (.leaf)))))) Try.func38 (by kernel_rfl) (by kernel_rfl) (by kernel_rfl) Try.call38 tbl_nil (by intro a; kernel_rfl)
noncomputable def F16 : Fun := ⟨16, [.v (.st (.pr (.slc .bor (.slc .bor (.int .i64))) .nil)), .v (.slc .bor (.int .i64))], [(.int .i64), (.int .i64)], d_rcm_Bandwidth⟩
theorem ok16 : OkFun E F16 :=
  OkFun.of (fn := Try.f16) (rs := [.tmp 4, .tmp 5]) ((38, F38) :: (37, F37) :: []) [(2, (.ptr .imm (.st (.pr (.slc .bor (.slc .bor (.int .i64))) .nil)))), (7, (.slc .imm (.int .i64)))] [(7, 20)] (.keep [0, 1] (.two .none (.leaf) (.two .none (.leaf) (.two .none (.two .none (.leaf) (.two .none (.two .none (.leaf) (.leaf)) (.leaf))) (.two .none (.leaf) (.two .none (.leaf) (.two .none (.two .none (.leaf) (.one (.keep [7, 22, 23] (.loop ⟨[(8, .v (.int .i64)), (24, .v (.int .i64))], []⟩ (.x 0 ⟨[(8, .v (.int .i64))], []⟩) (.two .none (.leaf) (.two .none (.two .none (.leaf) (.leaf)) (.two .none (.one (.two .none (.leaf) (.two .none (.leaf) (.one (.keep [9, 24, 29, 30] (.loop ⟨[(8, .v (.int .i64)), (31, .v (.int .i64))], []⟩ (.x 2 ⟨[(8, .v (.int .i64))], []⟩) (.two .none (.leaf) (.two .none (.two .none (.leaf) (.leaf)) (.two .none (.one (.two .none (.leaf) (.draw [⟨0, [35], [8], [], [], []⟩, ⟨1, [36], [7], [], [], []⟩, ⟨2, [37], [9], [], [], []⟩, ⟨3, [38], [36, 37], [1, 2], [], []⟩, ⟨4, [39], [38], [3], [], []⟩, ⟨5, [40], [7], [], [], []⟩, ⟨6, [41], [12], [], [], []⟩, ⟨7, [42], [40, 41], [5, 6], [], []⟩, ⟨8, [43], [42], [7], [], []⟩, ⟨9, [44], [39, 43], [4, 8], [], []⟩, ⟨10, [45], [35, 44], [0, 9], [], []⟩, ⟨11, [8], [45], [10, 0, 1, 2, 3, 4, 5, 6, 7, 8, 9, 10], [], []⟩]))) (.leaf)))))))))) (.leaf)))))))) (.two .none (.leaf) (.leaf))))))))) Try.func16 (by kernel_rfl) (by kernel_rfl) (by kernel_rfl) Try.call16 (tbl_cons ok38 (tbl_cons ok37 tbl_nil)) (by intro a; kernel_rfl)
noncomputable def F26 : Fun := ⟨26, [.v (.slc .bor (.int .i64)), .v (.slc .bor (.int .i64))], [.bool], d_sparsekit_Ints⟩
theorem ok26 : OkFun E F26 :=
  OkFun.of (fn := Try.f26) (rs := [.tmp 4]) ([]) [] [] (.keep [0, 1] (.two .none (.leaf) (.two .none (.two .none (.leaf) (.two .none (.two .none (.leaf) (.leaf)) (.leaf))) (.two .none (.two .none (.leaf) (.one (.loop ⟨[(5, .v (.int .i64))], []⟩ (.xr 0 ⟨[], []⟩) (.two .none (.two .none (.leaf) (.two .none (.leaf) (.leaf))) (.two .none (.one (.two .none (.draw [⟨0, [17], [0], [], [], []⟩, ⟨1, [18], [5], [], [], []⟩, ⟨2, [19], [17, 18], [0, 1], [], []⟩, ⟨3, [20], [19], [2], [], []⟩, ⟨4, [21], [1], [], [], []⟩, ⟨5, [22], [5], [], [], []⟩, ⟨6, [23], [21, 22], [4, 5], [], []⟩, ⟨7, [24], [23], [6], [], []⟩, ⟨8, [25], [20, 24], [3, 7], [], []⟩]) (.two .none (.two .none (.leaf) (.leaf)) (.leaf)))) (.leaf)))))) (.two .none (.leaf) (.leaf)))))) Try.func26 (by kernel_rfl) (by kernel_rfl) (by kernel_rfl) Try.call26 tbl_nil (by intro a; kernel_rfl)
noncomputable def F9 : Fun := ⟨9, [], [.bool], d_sparselaw17q_awake⟩
theorem ok9 : OkFun E F9 :=
  OkFun.of (fn := Try.f9) (rs := [.tmp 0]) ((26, F26) :: (16, F16) :: (12, F12) :: []) [(1, (.st (.pr (.slc .imm (.slc .imm (.int .i64))) .nil))), (2, (.slc .imm (.int .i64)))] [(2, 14000), (9, 6), (9, 7), (9, 8), (10, 9)] (.two .none (.leaf) (.two .none (.leaf) (.two .none (.leaf) (.two .none (.leaf) (.two .none (.leaf) (.leaf)))))) Try.func9 (by kernel_rfl) (by kernel_rfl) (by kernel_rfl) Try.call9 (tbl_cons ok26 (tbl_cons ok16 (tbl_cons ok12 tbl_nil))) (by intro a; kernel_rfl)
noncomputable def F10 : Fun := ⟨10, [.v (.int .i64), .v (.int .i64)], [(.int .i64)], d_sparsekit_Place⟩
theorem ok10 : OkFun E F10 :=
  OkFun.of (fn := Try.f10) (rs := [.tmp 4]) ([]) [] [] (.keep [0, 1] (.two .none (.leaf) (.two .none (.leaf) (.leaf)))) Try.func10 (by kernel_rfl) (by kernel_rfl) (by kernel_rfl) Try.call10 tbl_nil (by intro a; kernel_rfl)
noncomputable def F31 : Fun := ⟨31, [.v (.slc .bor (.slc .bor .bool))], [(.st (.pr (.osl (.slc .imm (.int .i64))) .nil))], d_sparseref12q_FromTable⟩
theorem ok31 : OkFun E F31 :=
  OkFun.of (fn := Try.f31) (rs := [.cell 2 27]) ([]) [(2, (.st (.pr (.osl (.slc .imm (.int .i64))) .nil))), (3, (.st (.pr (.osl (.slc .imm (.int .i64))) .nil))), (5, (.osl (.int .i64)))] [] (.keep [0] (.two .none (.leaf) (.two .none (.leaf) (.two .none (.two .none (.leaf) (.one (.loop ⟨[(2, .s (.ref 2 [])), (3, .s (.ref 3 [])), (4, .v (.int .i64))], [(2, (.optr (.st (.pr (.osl (.slc .imm (.int .i64))) .nil)))), (3, (.optr (.st (.pr (.osl (.slc .imm (.int .i64))) .nil))))]⟩ (.x 0 ⟨[(2, .s (.ref 2 [])), (3, .s (.ref 3 []))], [(2, (.optr (.st (.pr (.osl (.slc .imm (.int .i64))) .nil)))), (3, (.optr (.st (.pr (.osl (.slc .imm (.int .i64))) .nil))))]⟩) (.two .none (.two .none (.leaf) (.two .none (.leaf) (.leaf))) (.two .none (.one (.two .none (.leaf) (.two .none (.two .none (.leaf) (.one (.keep [4] (.loop ⟨[(2, .s (.ref 2 [])), (3, .s (.ref 3 [])), (5, .s (.ref 5 [])), (6, .v (.int .i64))], [(2, (.optr (.st (.pr (.osl (.slc .imm (.int .i64))) .nil)))), (3, (.optr (.st (.pr (.osl (.slc .imm (.int .i64))) .nil)))), (5, (.osl (.int .i64)))]⟩ (.x 2 ⟨[(2, .s (.ref 2 [])), (3, .s (.ref 3 [])), (5, .s (.ref 5 []))], [(2, (.optr (.st (.pr (.osl (.slc .imm (.int .i64))) .nil)))), (3, (.optr (.st (.pr (.osl (.slc .imm (.int .i64))) .nil)))), (5, (.osl (.int .i64)))]⟩) (.two .none (.two .none (.leaf) (.two .none (.leaf) (.leaf))) (.two (.x [6] ⟨[(2, .s (.ref 2 [])), (3, .s (.ref 3 [])), (5, .s (.ref 5 []))], [(2, (.optr (.st (.pr (.osl (.slc .imm (.int .i64))) .nil)))), (3, (.optr (.st (.pr (.osl (.slc .imm (.int .i64))) .nil)))), (5, (.osl (.int .i64)))]⟩) (.one (.two (.x [] ⟨[(2, .s (.ref 2 [])), (3, .s (.ref 3 [])), (5, .s (.ref 5 [])), (39, .v .bool)], [(2, (.optr (.st (.pr (.osl (.slc .imm (.int .i64))) .nil)))), (3, (.optr (.st (.pr (.osl (.slc .imm (.int .i64))) .nil)))), (5, (.osl (.int .i64)))]⟩) (.leaf) (.two .none (.leaf) (.leaf)))) (.leaf))))))) (.fz [5] (.leaf))))) (.leaf)))))) (.two .none (.leaf) (.leaf)))))) Try.func31 (by kernel_rfl) (by kernel_rfl) (by kernel_rfl) Try.call31 tbl_nil (by intro a; kernel_rfl)
noncomputable def F11 : Fun := ⟨11, [.v (.int .i64), .v (.slc .bor (.int .i64))], [(.st (.pr (.slc .imm (.slc .imm (.int .i64))) .nil))], d_sparsemake_Graph⟩
theorem ok11 : OkFun E F11 :=
  OkFun.of (fn := Try.f11) (rs := [.cell 4 27]) ((31, F31) :: (10, F10) :: []) [(4, (.st (.pr (.slc .imm (.slc .imm (.int .i64))) .nil))), (5, (.osl (.osl .bool))), (15, (.osl .bool)), (16, (.osl (.osl .bool)))] [(999999, 47)] (.keep [0, 1] (.two .none (.leaf) (.two .none (.leaf) (.two .none (.two .none (.leaf) (.one (.loop ⟨[(4, .s (.ref 4 [])), (5, .s (.ref 5 [])), (6, .v (.int .i64))], [(4, (.optr (.st (.pr (.slc .imm (.slc .imm (.int .i64))) .nil)))), (5, (.osl (.osl .bool)))]⟩ (.x 0 ⟨[(4, .s (.ref 4 [])), (5, .s (.ref 5 []))], [(4, (.optr (.st (.pr (.slc .imm (.slc .imm (.int .i64))) .nil)))), (5, (.osl (.osl .bool)))]⟩) (.two .none (.two .none (.leaf) (.two .none (.leaf) (.leaf))) (.two .none (.one (.leaf)) (.leaf)))))) (.two .none (.two .none (.leaf) (.one (.loop ⟨[(4, .s (.ref 4 [])), (5, .s (.ref 5 [])), (7, .v (.int .i64))], [(4, (.optr (.st (.pr (.slc .imm (.slc .imm (.int .i64))) .nil)))), (5, (.osl (.osl .bool)))]⟩ (.x 2 ⟨[(4, .s (.ref 4 [])), (5, .s (.ref 5 []))], [(4, (.optr (.st (.pr (.slc .imm (.slc .imm (.int .i64))) .nil)))), (5, (.osl (.osl .bool)))]⟩) (.two (.xr [7] ⟨[(4, .s (.ref 4 [])), (5, .s (.ref 5 []))], [(4, (.optr (.st (.pr (.slc .imm (.slc .imm (.int .i64))) .nil)))), (5, (.osl (.osl .bool)))]⟩) (.two .none (.leaf) (.two .none (.leaf) (.leaf))) (.two .none (.one (.draw [⟨0, [29], [5], [], [500005], []⟩, ⟨1, [30], [1], [], [], []⟩, ⟨2, [31], [7], [], [], []⟩, ⟨3, [32], [30, 31], [1, 2], [], []⟩, ⟨4, [33], [32], [3], [], []⟩, ⟨5, [34], [0], [], [], []⟩, ⟨6, [35], [33, 34], [4, 5], [], []⟩, ⟨7, [36], [29, 35], [0, 6], [5], []⟩, ⟨8, [37], [36], [7], [5], []⟩, ⟨9, [38], [1], [], [], []⟩, ⟨10, [39], [7], [], [], []⟩, ⟨11, [40], [39], [10], [], []⟩, ⟨12, [41], [38, 40], [9, 11], [], []⟩, ⟨13, [42], [41], [12], [], []⟩, ⟨14, [43], [0], [], [], []⟩, ⟨15, [44], [42, 43], [13, 14, 6], [], []⟩, ⟨16, [45], [37, 44], [8, 15, 0, 1, 2, 3, 4, 5, 6, 7, 8, 9, 10, 11, 12, 13, 14, 15], [5], []⟩, ⟨17, [], [45], [16, 15, 0, 1, 2, 3, 4, 5, 6, 7, 8, 9, 10, 11, 12, 13, 14, 15], [5], [5]⟩])) (.leaf)))))) (.two .none (.leaf) (.leaf))))))) Try.func11 (by kernel_rfl) (by kernel_rfl) (by kernel_rfl) Try.call11 (tbl_cons ok31 (tbl_cons ok10 tbl_nil)) (by intro a; kernel_rfl)
noncomputable def F13 : Fun := ⟨13, [.v (.slc .bor (.int .i64)), .v (.int .i64)], [.bool], d_sparsekit_Perm⟩
theorem ok13 : OkFun E F13 :=
  OkFun.of (fn := Try.f13) (rs := [.tmp 4]) ([]) [(12, (.osl .bool))] [] (.keep [0, 1] (.two .none (.leaf) (.two .none (.two .none (.leaf) (.two .none (.two .none (.leaf) (.leaf)) (.leaf))) (.two .none (.leaf) (.two .none (.two .none (.leaf) (.one (.loop ⟨[(5, .s (.ref 5 [])), (6, .v (.int .i64))], [(5, (.osl .bool))]⟩ (.xr 0 ⟨[], []⟩) (.two .none (.two .none (.leaf) (.two .none (.leaf) (.leaf))) (.two (.xr [6] ⟨[(5, .s (.ref 5 []))], [(5, (.osl .bool))]⟩) (.one (.two (.xr [] ⟨[(5, .s (.ref 5 []))], [(5, (.osl .bool))]⟩) (.two .none (.leaf) (.two .none (.two .none (.leaf) (.leaf)) (.leaf))) (.leaf))) (.leaf)))))) (.two .none (.leaf) (.leaf))))))) Try.func13 (by kernel_rfl) (by kernel_rfl) (by kernel_rfl) Try.call13 tbl_nil (by intro a; kernel_rfl)
noncomputable def F14 : Fun := ⟨14, [.v (.slc .bor (.int .i64))], [(.osl (.int .i64))], d_sparsekit_Invert⟩
theorem ok14 : OkFun E F14 :=
  OkFun.of (fn := Try.f14) (rs := [.tmp 2]) ([]) [(7, (.osl (.int .i64)))] [] (.keep [0] (.two .none (.leaf) (.two .none (.leaf) (.two .none (.two .none (.leaf) (.one (.loop ⟨[(3, .s (.ref 3 [])), (4, .v (.int .i64))], [(3, (.osl (.int .i64)))]⟩ (.x 0 ⟨[(3, .s (.ref 3 []))], [(3, (.osl (.int .i64)))]⟩) (.two .none (.two .none (.leaf) (.two .none (.leaf) (.leaf))) (.two .none (.one (.leaf)) (.leaf)))))) (.two .none (.leaf) (.leaf)))))) Try.func14 (by kernel_rfl) (by kernel_rfl) (by kernel_rfl) Try.call14 tbl_nil (by intro a; kernel_rfl)
noncomputable def F58 : Fun := ⟨58, [.v (.slc .bor (.int .i64))], [.bool], d_sparsekit_Ascending⟩
theorem ok58 : OkFun E F58 :=
  OkFun.of (fn := Try.f58) (rs := [.tmp 2]) ([]) [] [] (.keep [0] (.two .none (.leaf) (.two .none (.two .none (.leaf) (.one (.loop ⟨[(3, .v (.int .i64))], []⟩ (.xr 0 ⟨[], []⟩) (.two .none (.two .none (.leaf) (.two .none (.leaf) (.leaf))) (.two .none (.one (.two .none (.draw [⟨0, [10], [0], [], [], []⟩, ⟨1, [11], [3], [], [], []⟩, ⟨2, [12], [10, 11], [0, 1], [], []⟩, ⟨3, [13], [12], [2], [], []⟩, ⟨4, [14], [0], [], [], []⟩, ⟨5, [15], [3], [], [], []⟩, ⟨6, [16], [15], [5], [], []⟩, ⟨7, [17], [14, 16], [4, 6], [], []⟩, ⟨8, [18], [17], [7], [], []⟩, ⟨9, [19], [13, 18], [3, 8], [], []⟩]) (.two .none (.two .none (.leaf) (.leaf)) (.leaf)))) (.leaf)))))) (.two .none (.leaf) (.leaf))))) Try.func58 (by kernel_rfl) (by kernel_rfl) (by kernel_rfl) Try.call58 tbl_nil (by intro a; kernel_rfl)
noncomputable def F59 : Fun := ⟨59, [.v (.slc .bor (.int .i64)), .v (.int .i64)], [.bool], d_sparsekit_In⟩
theorem ok59 : OkFun E F59 :=
  OkFun.of (fn := Try.f59) (rs := [.tmp 4]) ([]) [] [] (.keep [0, 1] (.two .none (.leaf) (.two .none (.two .none (.leaf) (.one (.loop ⟨[(5, .v (.int .i64))], []⟩ (.xr 0 ⟨[], []⟩) (.two .none (.two .none (.leaf) (.two .none (.leaf) (.leaf))) (.two .none (.one (.two .none (.leaf) (.two .none (.two .none (.leaf) (.leaf)) (.leaf)))) (.leaf)))))) (.two .none (.leaf) (.leaf))))) Try.func59 (by kernel_rfl) (by kernel_rfl) (by kernel_rfl) Try.call59 tbl_nil (by intro a; kernel_rfl)
noncomputable def F35 : Fun := ⟨35, [.v (.st (.pr (.slc .bor (.slc .bor (.int .i64))) .nil))], [(.int .i64)], d_sparseref12q_Check⟩
theorem ok35 : OkFun E F35 :=
  OkFun.of (fn := Try.f35) (rs := [.tmp 2]) ((59, F59) :: (58, F58) :: []) [(1, (.ptr .imm (.st (.pr (.slc .bor (.slc .bor (.int .i64))) .nil))))] [] (.keep [0] (.two .none (.leaf) (.two .none (.leaf) (.two .none (.two .none (.leaf) (.two .none (.two .none (.leaf) (.leaf)) (.leaf))) (.two .none (.two .none (.leaf) (.one (.keep [1, 3] (.loop ⟨[(4, .v (.int .i64))], []⟩ (.xr 0 ⟨[], []⟩) (.two .none (.two .none (.leaf) (.two .none (.leaf) (.leaf))) (.two .none (.one (.two .none (.two .none (.leaf) (.two .none (.two .none (.leaf) (.leaf)) (.leaf))) (.two .none (.leaf) (.one (.keep [4] (.loop ⟨[(5, .v (.int .i64))], []⟩ (.xr 2 ⟨[], []⟩) (.two .none (.two .none (.leaf) (.two .none (.leaf) (.leaf))) (.two (.xr [5] ⟨[], []⟩) (.one (.two .none (.leaf) (.two .none (.leaf) (.two .none (.two .none (.leaf) (.leaf)) (.leaf))))) (.leaf))))))))) (.leaf))))))) (.two .none (.leaf) (.leaf))))))) Try.func35 (by kernel_rfl) (by kernel_rfl) (by kernel_rfl) Try.call35 (tbl_cons ok59 (tbl_cons ok58 tbl_nil)) (by intro a; kernel_rfl)
noncomputable def F36 : Fun := ⟨36, [.v (.st (.pr (.slc .bor (.slc .bor (.int .i64))) .nil)), .v (.int .i64)], [(.osl (.slc .imm (.int .i64)))], d_sparseref12q_Levels⟩
theorem ok36 : OkFun E F36 :=
  OkFun.of (fn := Try.f36) (rs := [.tmp 4]) ((35, F35) :: []) [(2, (.ptr .imm (.st (.pr (.slc .bor (.slc .bor (.int .i64))) .nil)))), (31, (.osl .bool)), (7, (.slc .imm (.int .i64))), (8, (.osl (.slc .imm (.int .i64)))), (45, (.osl .bool)), (13, (.osl (.int .i64))), (4, (.osl (.slc .imm (.int .i64))))] [(7, 36)] (.keep [0, 1] (.two .none (.leaf) (.two .none (.leaf) (.two (.xr [2, 5] ⟨[], []⟩) (.two .none (.leaf) (.two .none (.two .none (.leaf) (.leaf)) (.leaf))) (.two .none (.leaf) (.two .none (.leaf) (.two .none (.leaf) (.two .none (.leaf) (.two .none (.one (.keep [2, 5] (.loop ⟨[(6, .s (.ref 6 [])), (7, .v (.slc .imm (.int .i64))), (8, .s (.ref 8 []))], [(6, (.osl .bool)), (8, (.osl (.slc .imm (.int .i64))))]⟩ (.x 0 ⟨[(8, .s (.ref 8 []))], [(8, (.osl (.slc .imm (.int .i64))))]⟩) (.two .none (.two .none (.leaf) (.two .none (.leaf) (.leaf))) (.one (.two .none (.leaf) (.two .none (.leaf) (.two .none (.two .none (.leaf) (.one (.keep [7] (.loop ⟨[(6, .s (.ref 6 [])), (8, .s (.ref 8 [])), (9, .s (.ref 9 [])), (10, .v (.int .i64))], [(6, (.osl .bool)), (8, (.osl (.slc .imm (.int .i64)))), (9, (.osl .bool))]⟩ (.x 2 ⟨[(6, .s (.ref 6 [])), (8, .s (.ref 8 [])), (9, .s (.ref 9 []))], [(6, (.osl .bool)), (8, (.osl (.slc .imm (.int .i64)))), (9, (.osl .bool))]⟩) (.two .none (.two .none (.leaf) (.two .none (.leaf) (.leaf))) (.two .none (.one (.two .none (.draw [⟨0, [52], [2], [], [], []⟩, ⟨1, [53], [52], [0], [], []⟩, ⟨2, [54], [7], [], [], []⟩, ⟨3, [55], [10], [], [], []⟩, ⟨4, [56], [54, 55], [2, 3], [], []⟩, ⟨5, [57], [56], [4], [], []⟩, ⟨6, [58], [53, 57], [1, 5], [], []⟩, ⟨7, [59], [58], [6], [], []⟩, ⟨8, [11], [59], [7, 0, 1, 2, 3, 4, 5, 6, 7], [], []⟩]) (.two .none (.leaf) (.one (.keep [10, 11] (.loop ⟨[(6, .s (.ref 6 [])), (8, .s (.ref 8 [])), (9, .s (.ref 9 [])), (12, .v (.int .i64))], [(6, (.osl .bool)), (8, (.osl (.slc .imm (.int .i64)))), (9, (.osl .bool))]⟩ (.x 4 ⟨[(6, .s (.ref 6 [])), (8, .s (.ref 8 [])), (9, .s (.ref 9 []))], [(6, (.osl .bool)), (8, (.osl (.slc .imm (.int .i64)))), (9, (.osl .bool))]⟩) (.two .none (.two .none (.leaf) (.two .none (.leaf) (.leaf))) (.two (.x [12] ⟨[(6, .s (.ref 6 [])), (8, .s (.ref 8 [])), (9, .s (.ref 9 []))], [(6, (.osl .bool)), (8, (.osl (.slc .imm (.int .i64)))), (9, (.osl .bool))]⟩) (.one (.draw [⟨0, [66], [9], [], [500009], []⟩, ⟨1, [67], [11], [], [], []⟩, ⟨2, [68], [12], [], [], []⟩, ⟨3, [69], [67, 68], [1, 2], [], []⟩, ⟨4, [70], [69], [3], [], []⟩, ⟨5, [71], [9], [], [500009], []⟩, ⟨6, [72], [11], [], [], []⟩, ⟨7, [73], [12], [], [], []⟩, ⟨8, [74], [72, 73], [6, 7], [], []⟩, ⟨9, [75], [74], [8], [], []⟩, ⟨10, [76], [71, 75], [5, 9], [9], []⟩, ⟨11, [77], [76], [10], [9], []⟩, ⟨12, [78], [77], [11], [], []⟩, ⟨13, [79], [6, 78], [12], [500006], []⟩, ⟨14, [80], [11, 78], [12], [], []⟩, ⟨15, [81], [12, 78], [12], [], []⟩, ⟨16, [82], [80, 81, 78], [14, 15, 12], [], []⟩, ⟨17, [83], [82, 78], [16, 12], [], []⟩, ⟨18, [84], [79, 83, 78], [13, 17, 12], [6], []⟩, ⟨19, [85], [84, 78], [18, 12], [6], []⟩, ⟨20, [86], [85, 78], [19, 12], [], []⟩, ⟨21, [87], [78, 86], [12, 20], [], []⟩, ⟨22, [88], [66, 70], [0, 4, 0, 1, 2, 3, 4, 5, 6, 7, 8, 9, 10, 11, 12, 13, 14, 15, 16, 17, 18, 19, 20, 21], [9], []⟩, ⟨23, [], [88, 87], [22, 21, 12, 0, 1, 2, 3, 4, 5, 6, 7, 8, 9, 10, 11, 12, 13, 14, 15, 16, 17, 18, 19, 20, 21], [9], [9]⟩])) (.leaf))))))))) (.leaf))))))) (.two .none (.leaf) (.two .none (.two .none (.leaf) (.one (.loop ⟨[(6, .s (.ref 6 [])), (8, .s (.ref 8 [])), (9, .s (.ref 9 [])), (13, .s (.ref 13 [])), (14, .v (.int .i64))], [(6, (.osl .bool)), (8, (.osl (.slc .imm (.int .i64)))), (9, (.osl .bool)), (13, (.osl (.int .i64)))]⟩ (.x 6 ⟨[(6, .s (.ref 6 [])), (8, .s (.ref 8 [])), (13, .s (.ref 13 []))], [(6, (.osl .bool)), (8, (.osl (.slc .imm (.int .i64)))), (13, (.osl (.int .i64)))]⟩) (.two .none (.two .none (.leaf) (.two .none (.leaf) (.leaf))) (.two (.x [14] ⟨[(6, .s (.ref 6 [])), (8, .s (.ref 8 [])), (9, .s (.ref 9 [])), (13, .s (.ref 13 []))], [(6, (.osl .bool)), (8, (.osl (.slc .imm (.int .i64)))), (9, (.osl .bool)), (13, (.osl (.int .i64)))]⟩) (.one (.two .none (.leaf) (.two .none (.two .none (.leaf) (.leaf)) (.leaf)))) (.leaf)))))) (.fz [13] (.leaf)))))))))))) (.two .none (.leaf) (.leaf))))))))))) Try.func36 (by kernel_rfl) (by kernel_rfl) (by kernel_rfl) Try.call36 (tbl_cons ok35 tbl_nil) (by intro a; kernel_rfl)
noncomputable def F15 : Fun := ⟨15, [.v (.st (.pr (.slc .bor (.slc .bor (.int .i64))) .nil))], [(.osl (.slc .imm (.int .i64)))], d_sparseref12q_Components⟩
theorem ok15 : OkFun E F15 :=
  OkFun.of (fn := Try.f15) (rs := [.tmp 2]) ((36, F36) :: (35, F35) :: []) [(1, (.ptr .imm (.st (.pr (.slc .bor (.slc .bor (.int .i64))) .nil)))), (20, (.osl .bool)), (5, (.osl (.slc .imm (.int .i64)))), (7, (.slc .imm (.slc .imm (.int .i64)))), (34, (.osl .bool)), (11, (.osl (.int .i64))), (2, (.osl (.slc .imm (.int .i64))))] [(7, 32)] (.keep [0] (.two .none (.leaf) (.two .none (.two .none (.leaf) (.two .none (.two .none (.leaf) (.leaf)) (.leaf))) (.two .none (.leaf) (.two .none (.leaf) (.two .none (.leaf) (.two .none (.two .none (.leaf) (.one (.keep [1, 3] (.loop ⟨[(4, .s (.ref 4 [])), (5, .s (.ref 5 [])), (6, .v (.int .i64))], [(4, (.osl .bool)), (5, (.osl (.slc .imm (.int .i64))))]⟩ (.x 0 ⟨[(5, .s (.ref 5 []))], [(5, (.osl (.slc .imm (.int .i64))))]⟩) (.two .none (.two .none (.leaf) (.two .none (.leaf) (.leaf))) (.two (.x [6] ⟨[(4, .s (.ref 4 [])), (5, .s (.ref 5 []))], [(4, (.osl .bool)), (5, (.osl (.slc .imm (.int .i64))))]⟩) (.one (.two .none (.two .none (.leaf) (.two .none (.leaf) (.leaf))) (.two .none (.leaf) (.two .none (.leaf) (.two .none (.two .none (.leaf) (.one (.keep [7] (.loop ⟨[(4, .s (.ref 4 [])), (5, .s (.ref 5 [])), (8, .s (.ref 8 [])), (9, .v (.int .i64))], [(4, (.osl .bool)), (5, (.osl (.slc .imm (.int .i64)))), (8, (.osl .bool))]⟩ (.x 2 ⟨[(4, .s (.ref 4 [])), (5, .s (.ref 5 [])), (8, .s (.ref 8 []))], [(4, (.osl .bool)), (5, (.osl (.slc .imm (.int .i64)))), (8, (.osl .bool))]⟩) (.two .none (.two .none (.leaf) (.two .none (.leaf) (.leaf))) (.two .none (.one (.two .none (.leaf) (.one (.keep [9] (.loop ⟨[(4, .s (.ref 4 [])), (5, .s (.ref 5 [])), (8, .s (.ref 8 [])), (10, .v (.int .i64))], [(4, (.osl .bool)), (5, (.osl (.slc .imm (.int .i64)))), (8, (.osl .bool))]⟩ (.x 4 ⟨[(4, .s (.ref 4 [])), (5, .s (.ref 5 [])), (8, .s (.ref 8 []))], [(4, (.osl .bool)), (5, (.osl (.slc .imm (.int .i64)))), (8, (.osl .bool))]⟩) (.two .none (.two .none (.leaf) (.two .none (.leaf) (.leaf))) (.two .none (.one (.leaf)) (.leaf)))))))) (.leaf))))))) (.two .none (.leaf) (.two .none (.two .none (.leaf) (.one (.loop ⟨[(4, .s (.ref 4 [])), (5, .s (.ref 5 [])), (8, .s (.ref 8 [])), (11, .s (.ref 11 [])), (12, .v (.int .i64))], [(4, (.osl .bool)), (5, (.osl (.slc .imm (.int .i64)))), (8, (.osl .bool)), (11, (.osl (.int .i64)))]⟩ (.x 6 ⟨[(4, .s (.ref 4 [])), (5, .s (.ref 5 [])), (11, .s (.ref 11 []))], [(4, (.osl .bool)), (5, (.osl (.slc .imm (.int .i64)))), (11, (.osl (.int .i64)))]⟩) (.two .none (.two .none (.leaf) (.two .none (.leaf) (.leaf))) (.two (.x [12] ⟨[(4, .s (.ref 4 [])), (5, .s (.ref 5 [])), (8, .s (.ref 8 [])), (11, .s (.ref 11 []))], [(4, (.osl .bool)), (5, (.osl (.slc .imm (.int .i64)))), (8, (.osl .bool)), (11, (.osl (.int .i64)))]⟩) (.one (.two .none (.leaf) (.two .none (.two .none (.leaf) (.leaf)) (.leaf)))) (.leaf)))))) (.fz [11] (.leaf))))))))) (.leaf))))))) (.two .none (.leaf) (.leaf))))))))) Try.func15 (by kernel_rfl) (by kernel_rfl) (by kernel_rfl) Try.call15 (tbl_cons ok36 (tbl_cons ok35 tbl_nil)) (by intro a; kernel_rfl)
noncomputable def F44 : Fun := ⟨44, [.v (.st (.pr (.slc .bor (.slc .bor (.int .i64))) .nil)), .v (.int .i64)], [(.int .i64)], d_sparseref12q_Peripheral⟩
theorem ok44 : OkFun E F44 :=
  OkFun.of (fn := Try.f44) (rs := [.tmp 4]) ((36, F36) :: (35, F35) :: []) [(2, (.ptr .imm (.st (.pr (.slc .bor (.slc .bor (.int .i64))) .nil)))), (5, (.slc .imm (.slc .imm (.int .i64))))] [(5, 25)] (.keep [0] (.two .none (.leaf) (.two (.xr [1, 2] ⟨[], []⟩) (.two .none (.leaf) (.two .none (.two .none (.leaf) (.leaf)) (.leaf))) (.one (.keep [2] (.loop ⟨[(1, .v (.int .i64))], []⟩ .r (.one (.two .none (.leaf) (.two .none (.leaf) (.two .none (.leaf) (.two .none (.two .none (.leaf) (.one (.keep [1, 5, 6] (.loop ⟨[(7, .v (.int .i64)), (8, .v (.int .i64))], []⟩ (.x 2 ⟨[(7, .v (.int .i64))], []⟩) (.two .none (.two .none (.leaf) (.two .none (.leaf) (.leaf))) (.two (.x [8] ⟨[(7, .v (.int .i64))], []⟩) (.one (.two .none (.draw [⟨0, [41], [2], [], [], []⟩, ⟨1, [42], [41], [0], [], []⟩, ⟨2, [43], [6], [], [], []⟩, ⟨3, [44], [8], [], [], []⟩, ⟨4, [45], [43, 44], [2, 3], [], []⟩, ⟨5, [46], [45], [4], [], []⟩, ⟨6, [47], [42, 46], [1, 5], [], []⟩, ⟨7, [48], [47], [6], [], []⟩, ⟨8, [49], [48], [7], [], []⟩, ⟨9, [50], [2], [], [], []⟩, ⟨10, [51], [50], [9], [], []⟩, ⟨11, [52], [7], [], [], []⟩, ⟨12, [53], [51, 52], [10, 11], [], []⟩, ⟨13, [54], [53], [12], [], []⟩, ⟨14, [55], [54], [13], [], []⟩, ⟨15, [56], [49, 55], [8, 14], [], []⟩]) (.two .none (.leaf) (.leaf)))) (.leaf))))))) (.two .none (.two .none (.leaf) (.two .none (.two .none (.leaf) (.leaf)) (.leaf))) (.leaf))))))))))))) Try.func44 (by kernel_rfl) (by kernel_rfl) (by kernel_rfl) Try.call44 (tbl_cons ok36 (tbl_cons ok35 tbl_nil)) (by intro a; kernel_rfl)
noncomputable def F22 : Fun := ⟨22, [.v (.st (.pr (.slc .bor (.slc .bor (.int .i64))) .nil))], [(.osl (.int .i64)), (.int .i64)], d_sparseref17q_Order⟩
theorem ok22 : OkFun E F22 :=
  OkFun.of (fn := Try.f22) (rs := [.tmp 2, .tmp 3]) ((44, F44) :: (35, F35) :: (15, F15) :: []) [(1, (.ptr .imm (.st (.pr (.slc .bor (.slc .bor (.int .i64))) .nil)))), (26, (.osl .bool)), (7, (.slc .imm (.slc .imm (.int .i64)))), (8, (.osl (.int .i64))), (15, (.osl (.int .i64))), (2, (.osl (.int .i64)))] [(7, 28)] (.keep [0] (.two .none (.leaf) (.two .none (.two .none (.leaf) (.two .none (.leaf) (.two .none (.two .none (.leaf) (.leaf)) (.leaf)))) (.two .none (.leaf) (.two .none (.leaf) (.two .none (.leaf) (.two .none (.leaf) (.two .none (.two .none (.leaf) (.one (.keep [1, 7] (.loop ⟨[(6, .s (.ref 6 [])), (8, .s (.ref 8 [])), (9, .v (.int .i64))], [(6, (.osl .bool)), (8, (.osl (.int .i64)))]⟩ (.x 0 ⟨[(8, .s (.ref 8 []))], [(8, (.osl (.int .i64)))]⟩) (.two .none (.two .none (.leaf) (.two .none (.leaf) (.leaf))) (.two .none (.one (.two .none (.draw [⟨0, [35], [1], [], [], []⟩, ⟨1, [36], [7], [], [], []⟩, ⟨2, [37], [9], [], [], []⟩, ⟨3, [38], [36, 37], [1, 2], [], []⟩, ⟨4, [39], [38], [3], [], []⟩, ⟨5, [40], [39], [4], [], []⟩, ⟨6, [41], [40], [5], [], []⟩, ⟨7, [42], [35, 41], [0, 6], [], []⟩, ⟨8, [10], [42], [7, 7, 0, 1, 2, 3, 4, 5, 6, 7], [], []⟩]) (.two .none (.leaf) (.two .none (.leaf) (.two .none (.leaf) (.one (.keep [9] (.loop ⟨[(6, .s (.ref 6 [])), (8, .s (.ref 8 [])), (11, .v (.int .i64))], [(6, (.osl .bool)), (8, (.osl (.int .i64)))]⟩ (.x 2 ⟨[(6, .s (.ref 6 [])), (8, .s (.ref 8 []))], [(6, (.osl .bool)), (8, (.osl (.int .i64)))]⟩) (.two .none (.two .none (.leaf) (.two .none (.leaf) (.leaf))) (.two .none (.one (.one (.keep [11] (.loop ⟨[(6, .s (.ref 6 [])), (8, .s (.ref 8 []))], [(6, (.osl .bool)), (8, (.osl (.int .i64)))]⟩ (.x 4 ⟨[(6, .s (.ref 6 [])), (8, .s (.ref 8 []))], [(6, (.osl .bool)), (8, (.osl (.int .i64)))]⟩) (.one (.two .none (.leaf) (.two .none (.two .none (.leaf) (.one (.loop ⟨[(6, .s (.ref 6 [])), (8, .s (.ref 8 [])), (12, .v (.int .i64)), (13, .v (.int .i64))], [(6, (.osl .bool)), (8, (.osl (.int .i64)))]⟩ (.x 6 ⟨[(6, .s (.ref 6 [])), (8, .s (.ref 8 [])), (12, .v (.int .i64))], [(6, (.osl .bool)), (8, (.osl (.int .i64)))]⟩) (.two .none (.two .none (.draw [⟨0, [58], [13], [], [], []⟩, ⟨1, [59], [1], [], [], []⟩, ⟨2, [60], [59], [1], [], []⟩, ⟨3, [61], [8], [], [500008], []⟩, ⟨4, [62], [11], [], [], []⟩, ⟨5, [63], [61, 62], [3, 4], [8], []⟩, ⟨6, [64], [63], [5], [8], []⟩, ⟨7, [65], [60, 64], [2, 6], [], []⟩, ⟨8, [66], [65], [7], [], []⟩, ⟨9, [67], [66], [8], [], []⟩, ⟨10, [68], [58, 67], [0, 9], [], []⟩]) (.two .none (.leaf) (.leaf))) (.two (.x [13] ⟨[(6, .s (.ref 6 [])), (8, .s (.ref 8 [])), (12, .v (.int .i64))], [(6, (.osl .bool)), (8, (.osl (.int .i64)))]⟩) (.one (.two .none (.draw [⟨0, [71], [1], [], [], []⟩, ⟨1, [72], [71], [0], [], []⟩, ⟨2, [73], [8], [], [500008], []⟩, ⟨3, [74], [11], [], [], []⟩, ⟨4, [75], [73, 74], [2, 3], [8], []⟩, ⟨5, [76], [75], [4], [8], []⟩, ⟨6, [77], [72, 76], [1, 5], [], []⟩, ⟨7, [78], [77], [6], [], []⟩, ⟨8, [79], [13], [], [], []⟩, ⟨9, [80], [78, 79], [7, 8], [], []⟩, ⟨10, [81], [80], [9], [], []⟩, ⟨11, [14], [81], [10, 0, 1, 2, 3, 4, 5, 6, 7, 8, 9, 10], [], []⟩]) (.two (.x [12, 14] ⟨[(6, .s (.ref 6 [])), (8, .s (.ref 8 [])), (105, .v .bool)], [(6, (.osl .bool)), (8, (.osl (.int .i64)))]⟩) (.draw [⟨0, [82], [6], [], [500006], []⟩, ⟨1, [83], [14], [], [], []⟩, ⟨2, [84], [82, 83], [0, 1], [6], []⟩, ⟨3, [85], [84], [2], [6], []⟩, ⟨4, [86], [85], [3], [], []⟩, ⟨5, [87], [86], [4], [], []⟩, ⟨6, [88], [12, 87], [5], [], []⟩, ⟨7, [89], [88, 87], [6, 5], [], []⟩, ⟨8, [90], [89, 87], [7, 5, 5], [], []⟩, ⟨9, [91], [1, 90], [8], [], []⟩, ⟨10, [92], [91, 90], [9, 8], [], []⟩, ⟨11, [93], [14, 90], [8], [], []⟩, ⟨12, [94], [92, 93, 90], [10, 11, 8], [], []⟩, ⟨13, [95], [94, 90], [12, 8], [], []⟩, ⟨14, [96], [95, 90], [13, 8], [], []⟩, ⟨15, [97], [1, 90], [8], [], []⟩, ⟨16, [98], [97, 90], [15, 8], [], []⟩, ⟨17, [99], [12, 90], [8], [], []⟩, ⟨18, [100], [98, 99, 90], [16, 17, 8], [], []⟩, ⟨19, [101], [100, 90], [18, 8], [], []⟩, ⟨20, [102], [101, 90], [19, 8], [], []⟩, ⟨21, [103], [96, 102, 90], [14, 20, 8], [], []⟩, ⟨22, [104], [90, 103, 87], [8, 21, 5], [], []⟩, ⟨23, [105], [87, 104], [5, 22], [], []⟩]) (.two .none (.leaf) (.leaf))))) (.leaf)))))) (.two .none (.two .none (.leaf) (.two .none (.leaf) (.leaf))) (.two .none (.leaf) (.leaf)))))))))) (.leaf))))))))))) (.leaf))))))) (.two .none (.leaf) (.two .none (.two .none (.leaf) (.one (.loop ⟨[(8, .s (.ref 8 [])), (15, .s (.ref 15 [])), (16, .v (.int .i64))], [(8, (.osl (.int .i64))), (15, (.osl (.int .i64)))]⟩ (.x 8 ⟨[(15, .s (.ref 15 []))], [(15, (.osl (.int .i64)))]⟩) (.two .none (.two .none (.leaf) (.two .none (.leaf) (.leaf))) (.two .none (.one (.leaf)) (.leaf)))))) (.two .none (.leaf) (.leaf)))))))))))) Try.func22 (by kernel_rfl) (by kernel_rfl) (by kernel_rfl) Try.call22 (tbl_cons ok44 (tbl_cons ok35 (tbl_cons ok15 tbl_nil))) (by intro a; kernel_rfl)
noncomputable def F45 : Fun := ⟨45, [.v (.st (.pr (.slc .bor (.slc .bor (.int .i64))) .nil)), .v (.slc .bor (.int .i64))], [(.int .i64)], d_sparseref17q_check⟩
theorem ok45 : OkFun E F45 :=
  OkFun.of (fn := Try.f45) (rs := [.tmp 4]) ((35, F35) :: (13, F13) :: []) [(2, (.ptr .imm (.st (.pr (.slc .bor (.slc .bor (.int .i64))) .nil))))] [] (.keep [0, 1] (.two .none (.leaf) (.two .none (.two .none (.leaf) (.two .none (.leaf) (.two .none (.two .none (.leaf) (.leaf)) (.leaf)))) (.two .none (.two .none (.leaf) (.two .none (.two .none (.leaf) (.leaf)) (.leaf))) (.two .none (.two .none (.leaf) (.two .none (.two .none (.leaf) (.leaf)) (.leaf))) (.two .none (.leaf) (.leaf))))))) Try.func45 (by kernel_rfl) (by kernel_rfl) (by kernel_rfl) Try.call45 (tbl_cons ok35 (tbl_cons ok13 tbl_nil)) (by intro a; kernel_rfl)
noncomputable def F46 : Fun := ⟨46, [.v (.st (.pr (.slc .bor (.slc .bor (.int .i64))) .nil)), .v (.slc .bor (.int .i64))], [(.osl (.int .i64))], d_sparseref17q_First⟩
theorem ok46 : OkFun E F46 :=
  OkFun.of (fn := Try.f46) (rs := [.tmp 4]) ((14, F14) :: []) [(2, (.ptr .imm (.st (.pr (.slc .bor (.slc .bor (.int .i64))) .nil)))), (5, (.slc .imm (.int .i64))), (6, (.osl (.int .i64)))] [(5, 12)] (.keep [0, 1] (.two .none (.leaf) (.two .none (.leaf) (.two .none (.leaf) (.two .none (.two .none (.leaf) (.one (.keep [2, 5] (.loop ⟨[(6, .s (.ref 6 [])), (7, .v (.int .i64))], [(6, (.osl (.int .i64)))]⟩ (.x 0 ⟨[(6, .s (.ref 6 []))], [(6, (.osl (.int .i64)))]⟩) (.two .none (.two .none (.leaf) (.two .none (.leaf) (.leaf))) (.two .none (.one (.two .none (.leaf) (.two .none (.draw [⟨0, [20], [2], [], [], []⟩, ⟨1, [21], [20], [0], [], []⟩, ⟨2, [22], [1], [], [], []⟩, ⟨3, [23], [7], [], [], []⟩, ⟨4, [24], [22, 23], [2, 3], [], []⟩, ⟨5, [25], [24], [4], [], []⟩, ⟨6, [26], [21, 25], [1, 5], [], []⟩, ⟨7, [27], [26], [6], [], []⟩, ⟨8, [9], [27], [7, 0, 1, 2, 3, 4, 5, 6, 7], [], []⟩]) (.two .none (.two .none (.leaf) (.one (.keep [7, 9] (.loop ⟨[(6, .s (.ref 6 [])), (8, .v (.int .i64)), (10, .v (.int .i64))], [(6, (.osl (.int .i64)))]⟩ (.x 2 ⟨[(6, .s (.ref 6 [])), (8, .v (.int .i64))], [(6, (.osl (.int .i64)))]⟩) (.two .none (.two .none (.leaf) (.two .none (.leaf) (.leaf))) (.two .none (.one (.leaf)) (.leaf))))))) (.leaf))))) (.leaf))))))) (.two .none (.leaf) (.leaf))))))) Try.func46 (by kernel_rfl) (by kernel_rfl) (by kernel_rfl) Try.call46 (tbl_cons ok14 tbl_nil) (by intro a; kernel_rfl)
noncomputable def F23 : Fun := ⟨23, [.v (.st (.pr (.slc .bor (.slc .bor (.int .i64))) .nil)), .v (.slc .bor (.int .i64))], [(.int .i64), (.int .i64)], d_sparseref17q_Bandwidth⟩
theorem ok23 : OkFun E F23 :=
  OkFun.of (fn := Try.f23) (rs := [.tmp 4, .tmp 5]) ((46, F46) :: (45, F45) :: []) [(2, (.ptr .imm (.st (.pr (.slc .bor (.slc .bor (.int .i64))) .nil)))), (7, (.slc .imm (.int .i64)))] [(7, 18)] (.keep [0, 1] (.two .none (.leaf) (.two .none (.two .none (.leaf) (.two .none (.leaf) (.two .none (.two .none (.leaf) (.leaf)) (.leaf)))) (.two .none (.leaf) (.two .none (.leaf) (.two .none (.two .none (.leaf) (.one (.keep [7] (.loop ⟨[(8, .v (.int .i64)), (9, .v (.int .i64))], []⟩ (.x 0 ⟨[(8, .v (.int .i64))], []⟩) (.two .none (.two .none (.leaf) (.two .none (.leaf) (.leaf))) (.two .none (.one (.leaf)) (.leaf))))))) (.two .none (.leaf) (.leaf)))))))) Try.func23 (by kernel_rfl) (by kernel_rfl) (by kernel_rfl) Try.call23 (tbl_cons ok46 (tbl_cons ok45 tbl_nil)) (by intro a; kernel_rfl)
noncomputable def F24 : Fun := ⟨24, [.v (.st (.pr (.slc .bor (.slc .bor (.int .i64))) .nil)), .v (.slc .bor (.int .i64))], [(.int .i64), (.int .i64)], d_rcm_Profile⟩
theorem ok24 : OkFun E F24 :=
  OkFun.of (fn := Try.f24) (rs := [.tmp 4, .tmp 5]) ((38, F38) :: (37, F37) :: []) [(2, (.ptr .imm (.st (.pr (.slc .bor (.slc .bor (.int .i64))) .nil)))), (7, (.slc .imm (.int .i64)))] [(7, 21)] (.keep [0, 1] (.two .none (.leaf) (.two .none (.leaf) (.two .none (.two .none (.leaf) (.two .none (.two .none (.leaf) (.leaf)) (.leaf))) (.two .none (.leaf) (.two .none (.leaf) (.two .none (.two .none (.leaf) (.one (.keep [2, 7, 22, 23] (.loop ⟨[(8, .v (.int .i64)), (24, .v (.int .i64))], []⟩ (.x 0 ⟨[(8, .v (.int .i64))], []⟩) (.two .none (.leaf) (.two .none (.two .none (.leaf) (.leaf)) (.two .none (.one (.two .none (.leaf) (.two .none (.leaf) (.two .none (.two .none (.leaf) (.one (.keep [8, 9, 24, 34, 35] (.loop ⟨[(11, .v (.int .i64)), (36, .v (.int .i64))], []⟩ (.x 2 ⟨[(11, .v (.int .i64))], []⟩) (.two .none (.leaf) (.two .none (.two .none (.leaf) (.leaf)) (.two .none (.one (.two .none (.leaf) (.leaf))) (.leaf)))))))) (.leaf))))) (.leaf)))))))) (.two .none (.leaf) (.leaf))))))))) Try.func24 (by kernel_rfl) (by kernel_rfl) (by kernel_rfl) Try.call24 (tbl_cons ok38 (tbl_cons ok37 tbl_nil)) (by intro a; kernel_rfl)
noncomputable def F25 : Fun := ⟨25, [.v (.st (.pr (.slc .bor (.slc .bor (.int .i64))) .nil)), .v (.slc .bor (.int .i64))], [(.int .i64), (.int .i64)], d_sparseref17q_Profile⟩
theorem ok25 : OkFun E F25 :=
  OkFun.of (fn := Try.f25) (rs := [.tmp 4, .tmp 5]) ((46, F46) :: (45, F45) :: []) [(2, (.ptr .imm (.st (.pr (.slc .bor (.slc .bor (.int .i64))) .nil)))), (7, (.slc .imm (.int .i64)))] [(7, 18)] (.keep [0, 1] (.two .none (.leaf) (.two .none (.two .none (.leaf) (.two .none (.leaf) (.two .none (.two .none (.leaf) (.leaf)) (.leaf)))) (.two .none (.leaf) (.two .none (.leaf) (.two .none (.two .none (.leaf) (.one (.keep [7] (.loop ⟨[(8, .v (.int .i64)), (9, .v (.int .i64))], []⟩ (.x 0 ⟨[(8, .v (.int .i64))], []⟩) (.two .none (.two .none (.leaf) (.two .none (.leaf) (.leaf))) (.two .none (.one (.leaf)) (.leaf))))))) (.two .none (.leaf) (.leaf)))))))) Try.func25 (by kernel_rfl) (by kernel_rfl) (by kernel_rfl) Try.call25 (tbl_cons ok46 (tbl_cons ok45 tbl_nil)) (by intro a; kernel_rfl)
noncomputable def F28 : Fun := ⟨28, [.v (.slc .bor (.int .i64)), .v (.int .i64)], [(.osl (.int .i64))], d_sparsekit_Shuffle⟩
theorem ok28 : OkFun E F28 :=
  OkFun.of (fn := Try.f28) (rs := [.tmp 4]) ((10, F10) :: []) [(5, (.osl (.int .i64))), (7, (.osl (.int .i64)))] [] (.keep [0, 1] (.two .none (.leaf) (.two .none (.leaf) (.two .none (.two .none (.leaf) (.one (.loop ⟨[(5, .s (.ref 5 [])), (6, .v (.int .i64))], [(5, (.osl (.int .i64)))]⟩ (.x 0 ⟨[(5, .s (.ref 5 []))], [(5, (.osl (.int .i64)))]⟩) (.two .none (.two .none (.leaf) (.two .none (.leaf) (.leaf))) (.two .none (.one (.leaf)) (.leaf)))))) (.two .none (.leaf) (.two .none (.two .none (.leaf) (.one (.loop ⟨[(5, .s (.ref 5 [])), (7, .s (.ref 7 [])), (8, .v (.int .i64))], [(5, (.osl (.int .i64))), (7, (.osl (.int .i64)))]⟩ (.x 2 ⟨[(7, .s (.ref 7 []))], [(7, (.osl (.int .i64)))]⟩) (.two .none (.two .none (.leaf) (.two .none (.leaf) (.leaf))) (.two (.x [8] ⟨[(5, .s (.ref 5 [])), (7, .s (.ref 7 []))], [(5, (.osl (.int .i64))), (7, (.osl (.int .i64)))]⟩) (.one (.two .none (.leaf) (.two (.x [] ⟨[(5, .s (.ref 5 [])), (7, .s (.ref 7 [])), (9, .v (.int .i64))], [(5, (.osl (.int .i64))), (7, (.osl (.int .i64)))]⟩) (.two .none (.leaf) (.two .none (.leaf) (.leaf))) (.two .none (.leaf) (.draw [⟨0, [42], [5], [], [500005], []⟩, ⟨1, [43], [9], [], [], []⟩, ⟨2, [44], [42, 43], [0, 1], [5], []⟩, ⟨3, [45], [5], [], [500005], []⟩, ⟨4, [46], [9], [], [], []⟩, ⟨5, [47], [46], [4], [], []⟩, ⟨6, [48], [45, 47], [3, 5], [5], []⟩, ⟨7, [49], [44, 48], [2, 6], [5, 49], [5, 49, 500005, 500049]⟩, ⟨8, [5], [49], [7, 7, 0, 1, 2, 3, 4, 5, 6, 7], [5, 49], [5, 49, 500005, 500049]⟩]))))) (.leaf)))))) (.two .none (.leaf) (.leaf)))))))) Try.func28 (by kernel_rfl) (by kernel_rfl) (by kernel_rfl) Try.call28 (tbl_cons ok10 tbl_nil) (by intro a; kernel_rfl)
noncomputable def F6 : Fun := ⟨6, [.v (.int .i64), .v (.slc .bor (.int .i64)), .v (.slc .bor (.int .i64))], [.bool], d_sparselaw17q_RcmMade⟩
theorem ok6 : OkFun E F6 :=
  OkFun.of (fn := Try.f6) (rs := [.tmp 6]) ((9, F9) :: (28, F28) :: (26, F26) :: (25, F25) :: (24, F24) :: (23, F23) :: (22, F22) :: (16, F16) :: (12, F12) :: (11, F11) :: (10, F10) :: []) [(7, (.st (.pr (.slc .imm (.slc .imm (.int .i64))) .nil))), (8, (.slc .imm (.int .i64))), (9, (.slc .imm (.int .i64))), (11, (.slc .imm (.int .i64)))] [(8, 32), (9, 36000), (11, 41000)] (.keep [1, 2] (.two .none (.leaf) (.two .none (.two .none (.leaf) (.two .none (.two .none (.leaf) (.leaf)) (.leaf))) (.two .none (.leaf) (.two .none (.leaf) (.two .none (.leaf) (.two .none (.leaf) (.two .none (.leaf) (.two .none (.leaf) (.two .none (.leaf) (.two .none (.leaf) (.two .none (.leaf) (.two .none (.leaf) (.leaf)))))))))))))) Try.func6 (by kernel_rfl) (by kernel_rfl) (by kernel_rfl) Try.call6 (tbl_cons ok9 (tbl_cons ok28 (tbl_cons ok26 (tbl_cons ok25 (tbl_cons ok24 (tbl_cons ok23 (tbl_cons ok22 (tbl_cons ok16 (tbl_cons ok12 (tbl_cons ok11 (tbl_cons ok10 tbl_nil))))))))))) (by intro a; kernel_rfl)
end Go.Fw
end

section
namespace Go.Fw
theorem getElem?_ext_lt {α : Type} {a b : List α} (hl : a.length = b.length) (h : ∀ k, k < a.length → a[k]? = b[k]?) : a = b := by
  apply List.ext_getElem?
  intro k
  rcases Nat.lt_or_ge k a.length with h1 | h1
  · exact h k h1
  · rw [List.getElem?_eq_none h1, List.getElem?_eq_none (by omega)]
theorem Ints_eq (a b : List Int) (ha : a.length < 4611686018427387904) : d_sparsekit_Ints (a, b, ()) = some (a == b, ()) := by
  rw [← Ok.eq_iff]
  unfold d_sparsekit_Ints
  simp only [Ok.bif_iff, Ok.bind_iff, Ok.some_iff]
  refine ⟨fun h => ?_, fun h => ?_⟩
  · simp at h
    have : a ≠ b := fun e => h (by rw [e])
    simp [this]
  · simp at h
    have hl : a.length = b.length := by omega
    refine Ok.for (i0 := 0) a.length (fun i _ => ∀ k, k < i → a[k]? = b[k]?) rfl (by simp) (Nat.zero_le _) ?_ ?_
    · intro i t _ hi hI
      simp only [Ok.bif_iff, Ok.bind_iff, Ok.some_iff, Ok.getN_iff]
      refine ⟨fun _ => ⟨hi, by omega, fun hne => ?_, fun he => ?_⟩, fun hf => ?_⟩
      · simp at hne
        have : a ≠ b := fun e => hne (by simp [e])
        simp [this]
      · refine ⟨wrap_succ (by omega), fun k hk => ?_⟩
        rcases Nat.lt_or_ge k i with h1 | h1
        · exact hI k h1
        · obtain rfl : k = i := by omega
          simp at he
          rw [List.getElem?_eq_getElem hi, List.getElem?_eq_getElem (by omega), he]
      · simp at hf; omega
    · intro t hI
      simp only [Ok.bif_iff, Ok.bind_iff, Ok.some_iff]
      refine ⟨fun hf => by simp at hf, fun _ => ?_⟩
      simp [getElem?_ext_lt hl hI]
theorem take_snoc {α : Type} {a : List α} {i : Nat} (h : i < a.length) : a.take i ++ [a[i]] = a.take (i + 1) := by
  rw [List.take_add_one, List.getElem?_eq_getElem h]; rfl
theorem pairwise_iff {l : List Int} : l.Pairwise (· < ·) ↔ ∀ k, (h : k + 1 < l.length) → l[k] < l[k + 1] := by
  constructor
  · intro h k hk
    exact (List.pairwise_iff_getElem.1 h) k (k + 1) (by omega) hk (by omega)
  · intro h
    rw [List.pairwise_iff_getElem]
    have key : ∀ d i (hi : i < l.length) (hj : i + d + 1 < l.length), l[i] < l[i + d + 1] := by
      intro d
      induction d with
      | zero => intro i hi hj; exact h i hj
      | succ d ih =>
        intro i hi hj
        have h1 := ih i hi (by omega)
        have h2 := h (i + d + 1) (by omega)
        exact Int.lt_trans h1 h2
    intro i j hi hj hij
    obtain ⟨d, rfl⟩ : ∃ d, j = i + d + 1 := ⟨j - i - 1, by omega⟩
    exact key d i hi hj
theorem Ascending_eq (l : List Int) (hl : l.length < 4611686018427387904) : d_sparsekit_Ascending (l, ()) = some (decide (l.Pairwise (· < ·)), ()) := by
  rw [← Ok.eq_iff]
  unfold d_sparsekit_Ascending
  simp only [Ok.bind_iff]
  by_cases h0 : l.length = 0
  · have : l = [] := List.length_eq_zero_iff.1 h0
    subst this
    refine Ok.loop (fun s => s = (1, ())) (fun _ => 0) rfl ?_
    rintro _ rfl
    simp [Ok.some_iff]
  · refine Ok.for (i0 := 1) l.length (fun i _ => ∀ k, (h : k + 1 < l.length) → k + 1 < i → l[k] < l[k + 1]) rfl (fun k _ h => by omega) (by omega) ?_ ?_
    · rintro i _ h1 hi hI
      simp only [Ok.bif_iff, Ok.bind_iff, Ok.some_iff, Ok.getN_iff]
      have e : IntKind.i64.wrap ((i : Int) - 1) = ((i - 1 : Nat) : Int) := by rw [wrap64 (by omega) (by omega)]; omega
      rw [e]
      refine ⟨fun _ => ⟨hi, ?_⟩, fun hf => ?_⟩
      · rw [Ok.getN_iff]
        refine ⟨by omega, ?_⟩
        refine ⟨fun hle => ?_, fun hlt => ⟨wrap_succ (by omega), fun k hk hki => ?_⟩⟩
        · have : ¬ l.Pairwise (· < ·) := fun hp => by
            have := pairwise_iff.1 hp (i - 1) (by omega)
            simp only [show i - 1 + 1 = i by omega] at this
            simp at hle; omega
          simp [this]
        · rcases Nat.lt_or_ge (k + 1) i with h2 | h2
          · exact hI k hk h2
          · obtain rfl : i = k + 1 := by omega
            simp at hlt
            exact hlt
      · simp at hf; omega
    · intro t hI
      simp only [Ok.bif_iff, Ok.bind_iff, Ok.some_iff]
      refine ⟨fun hf => by simp at hf, fun _ => ?_⟩
      have : l.Pairwise (· < ·) := pairwise_iff.2 (fun k hk => hI k hk hk)
      simp [this]
end Go.Fw
end

section
set_option linter.unusedSimpArgs false
set_option linter.unusedVariables false
namespace Go.Fw
def AscIn (l : List Int) (n : Int) : Prop := l.Pairwise (· < ·) ∧ ∀ x ∈ l, 0 ≤ x ∧ x < n
theorem Ok.count {σ ρ : Type} {f : σ → Option (σ ⊕ ρ)} {Q : ρ → Prop} (ix : σ → Int) (n : Nat) (I : Nat → σ → Prop) {i0 : Nat} {s0 : σ} (hix : ix s0 = (i0 : Int)) (h0 : I i0 s0) (hi : i0 ≤ n)
    (hstep : ∀ i s, i0 ≤ i → i < n → ix s = (i : Int) → I i s → Ok (f s) (fun | .inl s' => ix s' = ((i + 1 : Nat) : Int) ∧ I (i + 1) s' | .inr r => Q r))
    (hend : ∀ s, ix s = (n : Int) → I n s → Ok (f s) (fun | .inl _ => False | .inr r => Q r)) : Ok (Fw.loop f s0) Q := by
  refine Ok.loop (fun s => ∃ i : Nat, i0 ≤ i ∧ i ≤ n ∧ ix s = (i : Int) ∧ I i s) (fun s => n - (ix s).toNat) ⟨i0, Nat.le_refl _, hi, hix, h0⟩ ?_
  rintro s ⟨i, hl, hi, e, ht⟩
  rcases Nat.lt_or_ge i n with h | h
  · refine (hstep i s hl h e ht).mono ?_
    rintro (s' | r) hy
    · obtain ⟨e', h2⟩ := hy
      exact ⟨⟨i + 1, by omega, by omega, e', h2⟩, by rw [e, e']; simp; omega⟩
    · exact hy
  · obtain rfl : i = n := by omega
    refine (hend s e ht).mono ?_
    rintro (s' | r) hy
    · exact hy.elim
    · exact hy
open Classical in
theorem ascending_eq (l : List Int) (n : Int) (hl : l.length < 4611686018427387904) : d_graph_ascending (l, n, ()) = some (decide (AscIn l n), ()) := by
  rw [← Ok.eq_iff]
  unfold d_graph_ascending
  simp only [Ok.bind_iff]
  refine Ok.count (fun s => s.2.1) l.length (fun i s => s.1 = (if i = 0 then -1 else l.getD (i - 1) 0) ∧ (l.take i).Pairwise (· < ·) ∧ ∀ x ∈ l.take i, 0 ≤ x ∧ x < n) (i0 := 0) rfl ⟨rfl, by simp, by simp⟩ (Nat.zero_le _) ?_ ?_
  · rintro i ⟨last, j, _⟩ _ hi e ⟨h1, h2, h3⟩
    simp only at e h1
    subst e
    simp only [Ok.bif_iff, Ok.bind_iff, Ok.some_iff, Ok.getN_iff]
    -- what is before is less than the last one, which is at least -1
    have hlast : ∀ x ∈ l.take i, x ≤ last := by
      intro x hx
      rw [h1]
      obtain ⟨k, hk, rfl⟩ := List.mem_iff_getElem.1 hx
      simp only [List.length_take] at hk
      have hi0 : i ≠ 0 := by omega
      rw [if_neg hi0]
      simp only [List.getElem_take, List.getD, List.getElem?_eq_getElem (show i - 1 < l.length by omega), Option.getD_some]
      rcases Nat.lt_or_ge k (i - 1) with h | h
      · have := (List.pairwise_iff_getElem.1 h2) k (i - 1) (by simp; omega) (by simp; omega) h
        simp only [List.getElem_take] at this
        omega
      · have : k = i - 1 := by omega
        subst this; exact Int.le_refl _
    have hm1 : -1 ≤ last := by
      rw [h1]
      by_cases h0 : i = 0
      · rw [if_pos h0]; exact Int.le_refl _
      · rw [if_neg h0]
        simp only [List.getD, List.getElem?_eq_getElem (show i - 1 < l.length by omega), Option.getD_some]
        have := h3 (l[i - 1]) (List.mem_iff_getElem.2 ⟨i - 1, by simp; omega, by simp⟩)
        omega
    have hbad : (l[i] ≤ last ∨ n ≤ l[i]) → ¬ AscIn l n := by
      rintro h ⟨p1, p2⟩
      rcases h with h | h
      · rw [h1] at h
        by_cases h0 : i = 0
        · rw [if_pos h0] at h
          have := p2 _ (List.getElem_mem hi); omega
        · rw [if_neg h0] at h
          simp only [List.getD, List.getElem?_eq_getElem (show i - 1 < l.length by omega), Option.getD_some] at h
          have := (List.pairwise_iff_getElem.1 p1) (i - 1) i (by omega) hi (by omega)
          omega
      · have := p2 _ (List.getElem_mem hi); omega
    refine ⟨fun _ => ⟨hi, fun g1 => ⟨fun g2 => ?_, fun g2 => ?_⟩, fun g1 => ?_⟩, fun hf => by simp at hf; omega⟩
    · have := hbad (.inr (by simpa using g2))
      simp [this]
    · simp at g1 g2
      refine ⟨wrap_succ (by omega), ?_, ?_, ?_⟩
      · simp [List.getD, hi]
      · rw [← take_snoc hi, List.pairwise_append]
        refine ⟨h2, by simp, fun a ha b hb => ?_⟩
        simp only [List.mem_singleton] at hb
        subst hb
        have := hlast a ha; omega
      · rw [← take_snoc hi]
        intro x hx
        rcases List.mem_append.1 hx with hx | hx
        · exact h3 x hx
        · simp only [List.mem_singleton] at hx
          subst hx
          omega
    · have := hbad (.inl (by simpa using g1))
      simp [this]
  · rintro ⟨last, j, _⟩ e ⟨h1, h2, h3⟩
    simp only at e
    subst e
    simp only [Ok.bif_iff, Ok.some_iff]
    refine ⟨fun hf => by simp at hf, fun _ => ?_⟩
    rw [List.take_length] at h2 h3
    have : AscIn l n := ⟨h2, h3⟩
    simp [this]
theorem Less_eq (x y : Int) : d_cmp_Less_int (x, y, ()) = some (decide (x < y), ()) := by
  unfold d_cmp_Less_int d_cmp_isNaN_int
  simp
theorem wrapUq_eq (x : Int) (h1 : 0 ≤ x) (h2 : x < 18446744073709551616) : IntKind.u64.wrap x = x := by
  unfold IntKind.wrap
  rw [if_neg (by simp [IntKind.signed])]
  show x % 18446744073709551616 = x
  omega
theorem BinarySearch_eq (l : List Int) (v : Int) (hl : l.length < 4611686018427387904) (hp : l.Pairwise (· < ·)) : Ok (d_slices_BinarySearch_int_int (l, v, ())) (fun r => r.2.1 = decide (v ∈ l)) := by
  unfold d_slices_BinarySearch_int_int
  simp only [Ok.bind_iff]
  refine Ok.mono (P := fun q => ∃ i : Nat, q.1 = (i : Int) ∧ i ≤ l.length ∧ (∀ k, (h : k < l.length) → k < i → l[k] < v) ∧ (∀ k, (h : k < l.length) → i ≤ k → v ≤ l[k])) ?_ ?_
  · refine Ok.loop (fun s => ∃ i j : Nat, s.1 = (i : Int) ∧ s.2.1 = (j : Int) ∧ i ≤ j ∧ j ≤ l.length ∧ (∀ k, (h : k < l.length) → k < i → l[k] < v) ∧ (∀ k, (h : k < l.length) → j ≤ k → v ≤ l[k])) (fun s => (s.2.1 - s.1).toNat) ⟨0, l.length, rfl, rfl, Nat.zero_le _, Nat.le_refl _, fun k _ h => by omega, fun k h1 h2 => by omega⟩ ?_
    rintro ⟨i', j', _⟩ ⟨i, j, rfl, rfl, hij, hj, h1, h2⟩
    simp only [Ok.bif_iff, Ok.bind_iff, Ok.some_iff]
    refine ⟨fun hlt => ?_, fun hge => ?_⟩
    · have hlt : i < j := by simpa using hlt
      have e1 : IntKind.i64.wrap ((i : Int) + j) = (i : Int) + j := wrap64 (by omega) (by omega)
      rw [e1, wrapUq_eq _ (by omega) (by omega)]
      have hs : shrO IntKind.u64 ((i : Int) + j) 1 = some (((i + j) / 2 : Nat) : Int) := by
        unfold shrO
        rw [if_pos (by omega)]
        congr 1
        show ((i : Int) + j).fdiv (2 ^ min 1 64) = _
        rw [show (2 : Int) ^ min 1 64 = 2 from rfl, Int.fdiv_eq_ediv_of_nonneg _ (by omega)]
        omega
      rw [hs]
      simp only [Ok.some_iff]
      have e2 : IntKind.i64.wrap (((i + j) / 2 : Nat) : Int) = (((i + j) / 2 : Nat) : Int) := wrap64 (by omega) (by omega)
      rw [e2, Ok.getN_iff]
      refine ⟨by omega, ?_⟩
      rw [Less_eq]
      simp only [Ok.some_iff, Ok.bif_iff]
      have hh : (i + j) / 2 < l.length := by omega
      refine ⟨fun hlv => ?_, fun hlv => ?_⟩
      · have hlv : l[(i + j) / 2] < v := by simpa using hlv
        rw [wrap_succ (by omega)]
        refine ⟨⟨(i + j) / 2 + 1, j, rfl, rfl, by omega, hj, fun k hk hki => ?_, h2⟩, by omega⟩
        rcases Nat.lt_or_ge k ((i + j) / 2) with h | h
        · exact Int.lt_trans ((List.pairwise_iff_getElem.1 hp) k _ hk hh h) hlv
        · have : k = (i + j) / 2 := by omega
          subst this; exact hlv
      · have hlv : v ≤ l[(i + j) / 2] := by simpa using hlv
        refine ⟨⟨i, (i + j) / 2, rfl, rfl, by omega, by omega, h1, fun k hk hki => ?_⟩, by omega⟩
        rcases Nat.lt_or_ge ((i + j) / 2) k with h | h
        · have := (List.pairwise_iff_getElem.1 hp) _ k hh hk h; omega
        · have : k = (i + j) / 2 := by omega
          subst this; exact hlv
    · have hij' : i = j := by have : ¬ i < j := by simpa using hge
                              omega
      subst hij'
      exact ⟨i, rfl, hj, h1, h2⟩
  · rintro ⟨i', _⟩ ⟨i, rfl, hi, h1, h2⟩
    simp only
    have hno : (∀ h : i < l.length, l[i] ≠ v) → v ∉ l := by
      intro hne hm
      obtain ⟨k, hk, rfl⟩ := List.mem_iff_getElem.1 hm
      rcases Nat.lt_trichotomy k i with h | h | h
      · have := h1 k hk h; omega
      · subst h; exact hne hk rfl
      · have a1 := h2 i (by omega) (Nat.le_refl _)
        have a2 := (List.pairwise_iff_getElem.1 hp) i k (by omega) hk h
        omega
    simp only [Ok.bif_iff, Ok.bind_iff, Ok.some_iff, Ok.getN_iff]
    refine ⟨fun hlt => ?_, fun hge => ?_⟩
    · have hlt : i < l.length := by simpa using hlt
      refine ⟨hlt, fun hne => ?_, fun heq => ?_⟩
      · have hne : l[i] ≠ v := by simpa using hne
        refine ⟨hlt, ?_⟩
        unfold d_slices_isNaN_int
        simp [Ok.some_iff]
        exact hno (fun _ => hne)
      · have heq : l[i] = v := by simpa using heq
        simp [← heq]
    · have hge : ¬ i < l.length := by simpa using hge
      simp
      exact hno (fun h => absurd h hge)
structure Valid (adj : List (List Int)) : Prop where
  asc : ∀ v, (h : v < adj.length) → AscIn adj[v] adj.length
  irr : ∀ v, (h : v < adj.length) → (v : Int) ∉ adj[v]
  sym : ∀ v, (h : v < adj.length) → ∀ w : Nat, (hw : w < adj.length) → (w : Int) ∈ adj[v] → (v : Int) ∈ adj[w]
open Classical in
noncomputable def chk (adj : List (List Int)) : Int := if 200 < adj.length then 6 else if Valid adj then 0 else 1
open Classical in
theorem joined_eq (adj : List (List Int)) (v : Nat) (w : Int) (hv : v < adj.length) (hl : adj[v].length < 4611686018427387904) (hp : adj[v].Pairwise (· < ·)) : d_graph_joined ((adj, ()), (v : Int), w, ()) = some (decide (w ∈ adj[v]), ()) := by
  rw [← Ok.eq_iff]
  unfold d_graph_joined
  simp only [Ok.bind_iff, Ok.getN_iff]
  refine ⟨hv, (BinarySearch_eq _ _ hl hp).mono ?_⟩
  rintro ⟨i, b, _⟩ h
  simp only at h
  rw [Ok.some_iff, h]
theorem Check_eq (adj : List (List Int)) (hc : ∀ l ∈ adj, l.length < 4611686018427387904) : d_graph_Check ((adj, ()), ()) = some (chk adj, ()) := by
  classical
  rw [← Ok.eq_iff]
  unfold d_graph_Check
  simp only [Ok.bif_iff, Ok.bind_iff, Ok.some_iff]
  refine ⟨fun h => ?_, fun h => ?_⟩
  · have : 200 < adj.length := by simp at h; omega
    simp [chk, this]
  have hn : ¬ 200 < adj.length := by simp at h; omega
  have hbad : ¬ Valid adj → (1 : Int) = chk adj := fun h => by simp [chk, hn, h]
  refine Ok.mono (P := fun q => (q = .inr (1, ()) ∧ ¬ Valid adj) ∨ (q = .inl () ∧ ∀ k, (h : k < adj.length) → AscIn adj[k] adj.length ∧ (k : Int) ∉ adj[k])) ?_ ?_
  · refine Ok.for (i0 := 0) adj.length (fun i _ => ∀ k, k < i → (h : k < adj.length) → AscIn adj[k] adj.length ∧ (k : Int) ∉ adj[k]) rfl (fun k hk => by omega) (Nat.zero_le _) ?_ ?_
    · rintro i _ _ hi hI
      simp only [Ok.bif_iff, Ok.bind_iff, Ok.some_iff, Ok.getN_iff]
      refine ⟨fun _ => ⟨hi, ?_⟩, fun hf => by simp at hf; omega⟩
      rw [ascending_eq _ _ (hc _ (List.getElem_mem hi))]
      simp only [Ok.some_iff]
      refine ⟨fun ha => ?_, fun ha => .inl ⟨trivial, fun hv => ?_⟩⟩
      · have ha : AscIn adj[i] adj.length := by simpa using ha
        rw [joined_eq adj i i hi (hc _ (List.getElem_mem hi)) ha.1]
        simp only [Ok.some_iff, Ok.bif_iff]
        refine ⟨fun hj => .inl ⟨trivial, fun hv => hv.irr i hi (by simpa using hj)⟩, fun hj => ⟨wrap_succ (by omega), fun k hk hkl => ?_⟩⟩
        rcases Nat.lt_or_ge k i with h2 | h2
        · exact hI k h2 hkl
        · obtain rfl : k = i := by omega
          exact ⟨ha, by simpa using hj⟩
      · have := hv.asc i hi
        simp [this] at ha
    · intro t hI
      simp only [Ok.bif_iff, Ok.some_iff]
      exact ⟨fun hf => by simp at hf, fun _ => .inr ⟨trivial, fun k hk => hI k hk hk⟩⟩
  · rintro q (⟨rfl, hv⟩ | ⟨rfl, hA⟩)
    · simp only [Ok.some_iff, hbad hv]
    simp only [Ok.bind_iff]
    have hsym : (∀ v, (h : v < adj.length) → ∀ x ∈ adj[v], ∀ w : Nat, x = (w : Int) → (hw : w < adj.length) → (v : Int) ∈ adj[w]) → Valid adj := fun h => ⟨fun v hv => (hA v hv).1, fun v hv => (hA v hv).2, fun v hv w hw hm => h v hv w hm w rfl hw⟩
    refine Ok.mono (P := fun q => (q = .inr (1, ()) ∧ ¬ Valid adj) ∨ (q = .inl () ∧ ∀ v, (h : v < adj.length) → ∀ x ∈ adj[v], ∀ w : Nat, x = (w : Int) → (hw : w < adj.length) → (v : Int) ∈ adj[w])) ?_ ?_
    · refine Ok.for (i0 := 0) adj.length (fun i _ => ∀ v, v < i → (h : v < adj.length) → ∀ x ∈ adj[v], ∀ w : Nat, x = (w : Int) → (hw : w < adj.length) → (v : Int) ∈ adj[w]) rfl (fun k hk => by omega) (Nat.zero_le _) ?_ ?_
      · rintro i _ _ hi hI
        simp only [Ok.bif_iff, Ok.bind_iff, Ok.getN_iff]
        refine ⟨fun _ => ⟨hi, ?_⟩, fun hf => by simp at hf; omega⟩
        have hli := hc _ (List.getElem_mem hi)
        refine Ok.mono (P := fun q => (q = .inr (.inr (.inr (1, ()))) ∧ ¬ Valid adj) ∨ (q = .inl () ∧ ∀ x ∈ adj[i], ∀ w : Nat, x = (w : Int) → (hw : w < adj.length) → (i : Int) ∈ adj[w])) ?_ ?_
        · refine Ok.for (i0 := 0) adj[i].length (fun k _ => ∀ m, m < k → (h : m < adj[i].length) → ∀ w : Nat, adj[i][m] = (w : Int) → (hw : w < adj.length) → (i : Int) ∈ adj[w]) rfl (fun k hk => by omega) (Nat.zero_le _) ?_ ?_
          · rintro k _ _ hk hK
            simp only [Ok.bif_iff, Ok.bind_iff, Ok.getN_iff]
            refine ⟨fun _ => ⟨hk, ?_⟩, fun hf => by simp at hf; omega⟩
            have hr := (hA i hi).1.2 _ (List.getElem_mem hk)
            obtain ⟨w, hw⟩ : ∃ w : Nat, adj[i][k] = (w : Int) := ⟨adj[i][k].toNat, by omega⟩
            have hwl : w < adj.length := by omega
            rw [hw, joined_eq adj w i hwl (hc _ (List.getElem_mem hwl)) (hA w hwl).1.1]
            simp only [Ok.some_iff, Ok.bif_iff]
            refine ⟨fun hno => .inl ⟨trivial, fun hv => ?_⟩, fun hyes => ⟨wrap_succ (by omega), fun m hm hml w' hw' hw'l => ?_⟩⟩
            · have := hv.sym i hi w hwl (hw ▸ List.getElem_mem hk)
              simp [this] at hno
            · rcases Nat.lt_or_ge m k with h2 | h2
              · exact hK m h2 hml w' hw' hw'l
              · obtain rfl : m = k := by omega
                have : w' = w := by omega
                subst this
                simpa using hyes
          · intro t hK
            simp only [Ok.bif_iff, Ok.some_iff]
            refine ⟨fun hf => by simp at hf, fun _ => .inr ⟨trivial, fun x hx w hw hwl => ?_⟩⟩
            obtain ⟨m, hm, rfl⟩ := List.mem_iff_getElem.1 hx
            exact hK m hm hm w hw hwl
        · rintro q (⟨rfl, hv⟩ | ⟨rfl, hX⟩)
          · simp only [Ok.some_iff]
            exact .inl ⟨trivial, hv⟩
          · simp only [Ok.some_iff]
            refine ⟨wrap_succ (by omega), fun v hv hvl => ?_⟩
            rcases Nat.lt_or_ge v i with h2 | h2
            · exact hI v h2 hvl
            · obtain rfl : v = i := by omega
              exact hX
      · intro t hI
        simp only [Ok.bif_iff, Ok.some_iff]
        exact ⟨fun hf => by simp at hf, fun _ => .inr ⟨trivial, fun k hk => hI k hk hk⟩⟩
    · rintro q (⟨rfl, hv⟩ | ⟨rfl, hX⟩)
      · simp only [Ok.some_iff, hbad hv]
      · simp only [Ok.some_iff]
        simp [chk, hn, hsym hX]
end Go.Fw
end

section
namespace Go.Fw
def Nb (adj : List (List Int)) (v w : Nat) : Prop := ∃ h : v < adj.length, (w : Int) ∈ adj[v]
theorem Nb.lt {adj : List (List Int)} (hv : Valid adj) {v w : Nat} (h : Nb adj v w) : v < adj.length ∧ w < adj.length := by
  obtain ⟨h1, h2⟩ := h
  have := (hv.asc v h1).2 _ h2
  exact ⟨h1, by omega⟩
theorem Nb.symm {adj : List (List Int)} (hv : Valid adj) : ∀ v w, Nb adj v w → Nb adj w v := fun v w h => by
  obtain ⟨h1, h2⟩ := h.lt hv
  exact ⟨h2, hv.sym v h1 w h2 h.2⟩
section
variable (adj : List (List Int))
variable {adj} {j : Nat} {T : Nat → Prop} {par ah : List Int}
end
end Go.Fw
end

section
set_option linter.unusedSimpArgs false
set_option linter.unusedVariables false
namespace Go.Fw
theorem sorted_filter (p : Nat → Bool) (k : Nat) : (((List.range k).filter p).map fun (j : Nat) => (j : Int)).Pairwise (· < ·) := by
  rw [List.pairwise_map]
  refine List.Pairwise.filter _ ?_
  exact (List.pairwise_lt_range).imp (fun h => by omega)
end Go.Fw
end

section
set_option linter.unusedSimpArgs false
set_option linter.unusedVariables false
namespace Go.Fw
theorem In_eq (l : List Int) (v : Int) (hl : l.length < 4611686018427387904) : d_sparsekit_In (l, v, ()) = some (decide (v ∈ l), ()) := by
  rw [← Ok.eq_iff]
  unfold d_sparsekit_In
  simp only [Ok.bind_iff]
  refine Ok.for (i0 := 0) l.length (fun i _ => v ∉ l.take i) rfl (by simp) (Nat.zero_le _) ?_ ?_
  · rintro i _ _ hi hI
    simp only [Ok.bif_iff, Ok.bind_iff, Ok.some_iff, Ok.getN_iff]
    refine ⟨fun _ => ⟨hi, fun he => ?_, fun hne => ⟨wrap_succ (by omega), ?_⟩⟩, fun hf => by simp at hf; omega⟩
    · have he : l[i] = v := by simpa using he
      have : v ∈ l := he ▸ List.getElem_mem hi
      simp [this]
    · rw [← take_snoc hi, List.mem_append]
      have hne : ¬ l[i] = v := by simpa using hne
      rintro (h | h)
      · exact hI h
      · exact hne (List.mem_singleton.1 h).symm
  · rintro _ hI
    simp only [Ok.bif_iff, Ok.some_iff]
    refine ⟨fun hf => by simp at hf, fun _ => ?_⟩
    rw [List.take_length] at hI
    simp [hI]
def placeV (a n : Int) : Int := (a % 18446744073709551616) % n
theorem wrapU64q_eq (x : Int) : IntKind.u64.wrap x = x % 18446744073709551616 := by
  unfold IntKind.wrap
  rw [if_neg (by simp [IntKind.signed])]
  rfl
theorem placeV_lt (a n : Int) (h : 0 < n) : 0 ≤ placeV a n ∧ placeV a n < n := by
  unfold placeV
  exact ⟨Int.emod_nonneg _ (by omega), Int.emod_lt_of_pos _ h⟩
theorem Place_eq (a n : Int) (h : 0 < n) (h2 : n ≤ 4294967296) : d_sparsekit_Place (a, n, ()) = some (placeV a n, ()) := by
  rw [← Ok.eq_iff]
  unfold d_sparsekit_Place
  simp only [Ok.bind_iff, wrapU64q_eq, show n % 18446744073709551616 = n by omega]
  unfold remO
  rw [if_pos (by omega)]
  have h3 : (a % 18446744073709551616).tmod n = placeV a n := Int.tmod_eq_emod_of_nonneg (Int.emod_nonneg _ (by omega))
  rw [Ok.some_iff, h3]
  have := placeV_lt a n h
  simp only [Ok.some_iff]
  rw [wrap64 (by omega) (by omega)]
def bitT (t : List (List Bool)) (v w : Nat) : Bool := (t.getD v []).getD w false
def lineT (t : List (List Bool)) (v k : Nat) : List Int := ((List.range k).filter fun w => v != w && (bitT t v w || bitT t w v)).map fun (w : Nat) => (w : Int)
def fromT (t : List (List Bool)) : List (List Int) := (List.range t.length).map fun v => lineT t v t.length
theorem lineT_length (t : List (List Bool)) (v k : Nat) : (lineT t v k).length ≤ k := by
  unfold lineT
  rw [List.length_map]
  exact Nat.le_trans (List.length_filter_le _ _) (by simp)
theorem lineT_succ (t : List (List Bool)) (v k : Nat) : lineT t v (k + 1) = lineT t v k ++ (if (v != k && (bitT t v k || bitT t k v)) = true then [(k : Int)] else []) := by
  unfold lineT
  rw [List.range_succ, List.filter_append, List.map_append]
  congr 1
  by_cases h : (v != k && (bitT t v k || bitT t k v)) = true
  · rw [if_pos h]; simp only [List.filter_cons, h, List.filter_nil]; rfl
  · rw [if_neg h]; simp only [List.filter_cons, List.filter_nil]; rw [if_neg h]; rfl
theorem bitT_get {t : List (List Bool)} {v w : Nat} (hv : v < t.length) (hw : w < t[v].length) : bitT t v w = t[v][w] := by
  unfold bitT
  simp [List.getD, hv, hw]
theorem FromTable_eq (t : List (List Bool)) (ht : ∀ l ∈ t, l.length = t.length) (hn : t.length ≤ 4294967296) : d_sparseref12q_FromTable (t, ()) = some ((fromT t, ()), ()) := by
  rw [← Ok.eq_iff]
  unfold d_sparseref12q_FromTable
  have hlim : lim = 4294967296 := rfl
  simp only [Ok.bind_iff]
  refine Ok.mono (P := fun q => q.2.1.1 = fromT t) ?_ ?_
  · refine Ok.for (i0 := 0) t.length (fun v s => s.2.1.1 = (List.range v).map fun v => lineT t v t.length) rfl rfl (Nat.zero_le _) ?_ ?_
    · rintro v ⟨s, g, _⟩ _ hv hg
      simp only at hg
      simp only [Ok.bif_iff, Ok.bind_iff, Ok.some_iff]
      refine ⟨fun _ => ?_, fun hf => by simp at hf; omega⟩
      refine Ok.mono (P := fun q => q.2.1 = g ∧ q.2.2.1 = lineT t v t.length) ?_ ?_
      · refine Ok.for (i0 := 0) t.length (fun w q => q.2.1 = g ∧ q.2.2.1 = lineT t v w) rfl ⟨rfl, rfl⟩ (Nat.zero_le _) ?_ ?_
        · rintro w ⟨s', g', l, _⟩ _ hw ⟨hg', hl⟩
          simp only at hl hg'
          subst hg'
          have hbv := ht _ (List.getElem_mem hv)
          have hbw := ht _ (List.getElem_mem hw)
          simp only [Ok.bif_iff (b := decide _), Ok.bind_iff (x := Option.bind _ _)]
          refine ⟨fun _ => ?_, fun hf => by simp at hf; omega⟩
          rw [Ok.bind_iff]
          refine Ok.mono (P := fun q => q = ((v != w && (bitT t v w || bitT t w v)), s', g', l, ())) ?_ ?_
          · simp only [Ok.bif_iff, Ok.bind_iff, Ok.some_iff, Ok.getN_iff]
            rw [bitT_get hv (by omega), bitT_get hw (by omega)]
            refine ⟨fun h => ⟨hv, by omega, fun h2 => ⟨hw, by omega, ?_⟩, fun h2 => ?_⟩, fun h => ?_⟩
            · have h : v ≠ w := by simp at h; omega
              have h2 : t[v][w] = false := by simpa using h2
              simp [h, h2]
            · have h : v ≠ w := by simp at h; omega
              have h2 : t[v][w] = true := by simpa using h2
              simp [h, h2]
            · have h : v = w := by simp at h; omega
              simp [h]
          · rintro q rfl
            have hll := lineT_length t v w
            simp only [Ok.bif_iff, Ok.bind_iff, Ok.some_iff, Ok.limO_iff]
            refine ⟨fun h => ⟨by rw [hl]; simp; omega, wrap_succ (by omega), trivial, ?_⟩, fun h => ⟨wrap_succ (by omega), trivial, ?_⟩⟩
            · rw [lineT_succ, if_pos h, hl]
            · rw [lineT_succ, if_neg (by rw [h]; simp), hl, List.append_nil]
        · rintro ⟨s', g', l, _⟩ ⟨hg', hl⟩
          simp only at hl hg'
          subst hg'
          simp only [Ok.bif_iff, Ok.some_iff]
          exact ⟨fun hf => by simp at hf, fun _ => ⟨trivial, hl⟩⟩
      · rintro ⟨s', g', l, _⟩ ⟨hg', hl⟩
        simp only at hl hg'
        subst hg'
        simp only [Ok.bind_iff, Ok.some_iff, Ok.limO_iff]
        refine ⟨by rw [hg]; simp; omega, wrap_succ (by omega), ?_⟩
        rw [hg, hl, List.range_succ, List.map_append]; rfl
    · rintro ⟨s, g, _⟩ hg
      simp only at hg
      simp only [Ok.bif_iff, Ok.some_iff]
      exact ⟨fun hf => by simp at hf, fun _ => hg⟩
  · rintro ⟨s, ⟨g, _⟩, _⟩ hg
    simp only at hg
    simp only [Ok.some_iff]
    rw [hg]
theorem mem_lineT {t : List (List Bool)} {v k w : Nat} : (w : Int) ∈ lineT t v k ↔ w < k ∧ v ≠ w ∧ (bitT t v w || bitT t w v) = true := by
  unfold lineT
  simp only [List.mem_map, List.mem_filter, List.mem_range, Bool.and_eq_true, bne_iff_ne]
  constructor
  · rintro ⟨a, ⟨h1, h2⟩, h3⟩
    have : a = w := by omega
    subst this
    exact ⟨h1, h2⟩
  · exact fun ⟨h1, h2⟩ => ⟨w, ⟨h1, h2⟩, rfl⟩
theorem fromT_valid (t : List (List Bool)) : Valid (fromT t) := by
  have hl : (fromT t).length = t.length := by simp [fromT]
  have hg : ∀ v, (h : v < (fromT t).length) → (fromT t)[v] = lineT t v t.length := fun v h => by simp [fromT]
  refine ⟨fun v h => ?_, fun v h => ?_, fun v h w hw hm => ?_⟩
  · rw [hg v h, hl]
    refine ⟨sorted_filter _ _, fun x hx => ?_⟩
    unfold lineT at hx
    simp only [List.mem_map, List.mem_filter, List.mem_range] at hx
    obtain ⟨a, ⟨h1, _⟩, rfl⟩ := hx
    omega
  · rw [hg v h, mem_lineT]
    exact fun hh => hh.2.1 rfl
  · rw [hg v h, mem_lineT] at hm
    rw [hg w hw, mem_lineT]
    exact ⟨by omega, hm.2.1.symm, by rw [Bool.or_comm]; exact hm.2.2⟩
theorem fromT_length (t : List (List Bool)) : (fromT t).length = t.length := by simp [fromT]
theorem fromT_lines (t : List (List Bool)) : ∀ l ∈ fromT t, l.length ≤ t.length := by
  intro l hl
  unfold fromT at hl
  simp only [List.mem_map, List.mem_range] at hl
  obtain ⟨v, _, rfl⟩ := hl
  exact lineT_length _ _ _
theorem Graph_ok (n : Nat) (l : List Int) (hn : n ≤ 200) (hl : l.length < 4611686018427387904) :
    Ok (d_sparsemake_Graph ((n : Int), l, ())) (fun r => r.1.1.length = n ∧ Valid r.1.1 ∧ ∀ x ∈ r.1.1, x.length ≤ n) := by
  unfold d_sparsemake_Graph
  have hlim : lim = 4294967296 := rfl
  simp only [Ok.bind_iff]
  refine Ok.mono (P := fun q => q.2.1 = List.replicate n (List.replicate n false)) ?_ ?_
  · refine Ok.for (i0 := 0) n (fun i s => s.2.1 = List.replicate i (List.replicate n false)) rfl rfl (Nat.zero_le _) ?_ ?_
    · rintro i ⟨s, t, _⟩ _ hi ht
      simp only at ht
      simp only [Ok.bif_iff, Ok.bind_iff, Ok.some_iff, Ok.madeO_iff, Ok.limO_iff, Int.toNat_natCast]
      refine ⟨fun _ => ⟨⟨by omega, by omega, by omega⟩, by rw [ht]; simp; omega, wrap_succ (by omega), ?_⟩, fun hf => by simp at hf; omega⟩
      rw [ht, List.replicate_succ']
    · rintro ⟨s, t, _⟩ ht
      simp only [Ok.bif_iff, Ok.some_iff]
      exact ⟨fun hf => by simp at hf, fun _ => ht⟩
  · rintro ⟨s, t, _⟩ ht
    simp only at ht
    subst ht
    simp only
    refine Ok.mono (P := fun q => q.2.1.length = n ∧ ∀ x ∈ q.2.1, x.length = n) ?_ ?_
    · refine Ok.loop (fun s => ∃ i : Nat, s.1 = (i : Int) ∧ i ≤ l.length + 1 ∧ s.2.2.1.length = n ∧ ∀ x ∈ s.2.2.1, x.length = n) (fun s => l.length + 1 - s.1.toNat) ⟨0, rfl, by omega, by simp, fun x hx => by rw [List.eq_of_mem_replicate hx]; simp⟩ ?_
      rintro ⟨i', s', t, _⟩ ⟨i, rfl, hi, h1, h2⟩
      simp only at h1 h2
      simp only [Ok.bind_iff, Ok.bif_iff, Ok.some_iff]
      have e1 : IntKind.i64.wrap ((i : Int) + 1) = ((i + 1 : Nat) : Int) := wrap_succ (by omega)
      have e2 : IntKind.i64.wrap ((i : Int) + 2) = ((i + 2 : Nat) : Int) := by rw [wrap64 (by omega) (by omega)]; omega
      rw [e1, e2]
      refine ⟨fun hlt => ⟨fun hpos => ?_, fun _ => ⟨h1, h2⟩⟩, fun _ => ⟨h1, h2⟩⟩
      have hlt : i + 1 < l.length := by simp at hlt; omega
      have hpos : 0 < n := by simpa using hpos
      have hp1 := placeV_lt l[i] n (by omega)
      have hp2 := placeV_lt l[i + 1] n (by omega)
      simp only [Ok.bind_iff, Ok.some_iff, Ok.getN_iff, Place_eq _ (n : Int) (by omega) (by omega), Ok.idxN_iff, Ok.atO_iff, Ok.map_iff]
      refine ⟨by omega, ⟨hp1.1, by omega⟩, hlt, by omega, ⟨hp2.1, ?_⟩, by omega, ?_, ⟨i + 2, rfl, by omega, by simpa using h1, fun x hx => ?_⟩, by omega⟩
      · have := h2 _ (List.getElem_mem (show (placeV l[i] n).toNat < t.length by omega)); omega
      · have := h2 _ (List.getElem_mem (show (placeV l[i] n).toNat < t.length by omega)); omega
      · rcases List.mem_or_eq_of_mem_set hx with hx | hx
        · exact h2 x hx
        · rw [hx, List.length_set]
          exact h2 _ (List.getElem_mem _)
    · rintro ⟨s', t, _⟩ ⟨h1, h2⟩
      simp only at h1 h2
      simp only [FromTable_eq t (fun l hl => by rw [h2 l hl, h1]) (by omega), Ok.some_iff]
      exact ⟨by rw [fromT_length, h1], fromT_valid t, fun x hx => by rw [← h1]; exact fromT_lines t x hx⟩
end Go.Fw
end

section
set_option linter.unusedSimpArgs false
set_option linter.unusedVariables false
namespace Go.Fw
theorem getN_some {α : Type} {xs : List α} {i : Nat} {y : α} (h : xs[i]? = some y) : getI xs (i : Int) = some y := by
  unfold getI; rw [if_pos (by omega), Int.toNat_natCast, h]
end Go.Fw
end

section
set_option linter.unusedSimpArgs false
set_option linter.unusedVariables false
namespace Go.Fw
theorem Valid_iff (adj : List (List Int)) : Valid adj ↔ ∀ v, (h : v < adj.length) → adj[v].Pairwise (· < ·) ∧ ∀ k, (hk : k < adj[v].length) → (0 ≤ adj[v][k] ∧ adj[v][k] < adj.length) ∧ adj[v][k] ≠ (v : Int) ∧ (v : Int) ∈ adj.getD (adj[v][k]).toNat [] := by
  constructor
  · rintro ⟨h1, h2, h3⟩ v hv
    refine ⟨(h1 v hv).1, fun k hk => ?_⟩
    have hr := (h1 v hv).2 _ (List.getElem_mem hk)
    refine ⟨hr, fun e => h2 v hv (e ▸ List.getElem_mem hk), ?_⟩
    have hw : (adj[v][k]).toNat < adj.length := by omega
    have := h3 v hv _ hw (by rw [Int.toNat_of_nonneg hr.1]; exact List.getElem_mem hk)
    rw [List.getD, List.getElem?_eq_getElem hw]
    exact this
  · intro h
    refine ⟨fun v hv => ⟨(h v hv).1, fun x hx => ?_⟩, fun v hv hm => ?_, fun v hv w hw hm => ?_⟩
    · obtain ⟨k, hk, rfl⟩ := List.mem_iff_getElem.1 hx
      exact ((h v hv).2 k hk).1
    · obtain ⟨k, hk, e⟩ := List.mem_iff_getElem.1 hm
      exact ((h v hv).2 k hk).2.1 e
    · obtain ⟨k, hk, e⟩ := List.mem_iff_getElem.1 hm
      have := ((h v hv).2 k hk).2.2
      rw [e, Int.toNat_natCast, List.getD, List.getElem?_eq_getElem hw] at this
      exact this
theorem refCheck_eq (adj : List (List Int)) (hc : ∀ l ∈ adj, l.length < 4611686018427387904) : d_sparseref12q_Check ((adj, ()), ()) = some (chk adj, ()) := by
  classical
  rw [← Ok.eq_iff]
  unfold d_sparseref12q_Check
  simp only [Ok.bif_iff, Ok.some_iff, Ok.bind_iff]
  refine ⟨fun h => ?_, fun h => ?_⟩
  · have : 200 < adj.length := by simp at h; omega
    simp [chk, this]
  have hn : ¬ 200 < adj.length := by simp at h; omega
  refine Ok.mono (P := fun q => (q = .inl () ∧ Valid adj) ∨ (q = .inr (1, ()) ∧ ¬ Valid adj)) ?_ ?_
  rotate_left
  · rintro _ (⟨rfl, hv⟩ | ⟨rfl, hv⟩)
    · simp only [Ok.some_iff]; simp [chk, hn, hv]
    · simp only [Ok.some_iff]; simp [chk, hn, hv]
  refine Ok.for (i0 := 0) adj.length (fun i _ => ∀ v, (h : v < adj.length) → v < i → adj[v].Pairwise (· < ·) ∧ ∀ k, (hk : k < adj[v].length) → (0 ≤ adj[v][k] ∧ adj[v][k] < adj.length) ∧ adj[v][k] ≠ (v : Int) ∧ (v : Int) ∈ adj.getD (adj[v][k]).toNat []) rfl (fun v _ h => by omega) (Nat.zero_le _) ?_ ?_
  · rintro v _ _ hv hI
    have hvl := hc _ (List.getElem_mem hv)
    simp only [Ok.bif_iff, Ok.some_iff, Ok.bind_iff, Ok.getN_iff]
    refine ⟨fun _ => ⟨hv, ?_⟩, fun hf => by simp at hf; omega⟩
    rw [Ascending_eq _ hvl]
    simp only [Ok.some_iff]
    refine ⟨fun ha => .inr ⟨trivial, fun hV => ?_⟩, fun ha => ?_⟩
    · have := (hV.asc v hv).1
      simp [this] at ha
    have ha : adj[v].Pairwise (· < ·) := by simpa using ha
    refine Ok.mono (P := fun q => (q = .inl () ∧ ∀ k, (hk : k < adj[v].length) → (0 ≤ adj[v][k] ∧ adj[v][k] < adj.length) ∧ adj[v][k] ≠ (v : Int) ∧ (v : Int) ∈ adj.getD (adj[v][k]).toNat []) ∨ (q = .inr (.inr (.inr (1, ()))) ∧ ¬ Valid adj)) ?_ ?_
    rotate_left
    · rintro _ (⟨rfl, hq⟩ | ⟨rfl, hq⟩)
      · simp only [Ok.some_iff]
        refine ⟨wrap_succ (by omega), fun u hu huv => ?_⟩
        rcases Nat.lt_or_ge u v with h | h
        · exact hI u hu h
        · obtain rfl : u = v := by omega
          exact ⟨ha, hq⟩
      · simp only [Ok.some_iff]
        exact .inr ⟨trivial, hq⟩
    refine Ok.for (i0 := 0) adj[v].length (fun i _ => ∀ k, (hk : k < adj[v].length) → k < i → (0 ≤ adj[v][k] ∧ adj[v][k] < adj.length) ∧ adj[v][k] ≠ (v : Int) ∧ (v : Int) ∈ adj.getD (adj[v][k]).toNat []) rfl (fun v _ h => by omega) (Nat.zero_le _) ?_ ?_
    · rintro k _ _ hk hI2
      have hbad : ¬ ((0 ≤ adj[v][k] ∧ adj[v][k] < adj.length) ∧ adj[v][k] ≠ (v : Int) ∧ (v : Int) ∈ adj.getD (adj[v][k]).toNat []) → ¬ Valid adj := fun h hV => h (((Valid_iff adj).1 hV v hv).2 k hk)
      simp only [Ok.bif_iff, Ok.some_iff, Ok.bind_iff, Ok.getN_iff]
      refine ⟨hv, fun _ => ⟨hv, hk, fun h1 => ⟨fun h2 => ⟨fun h3 => ?_, fun h3 => ?_⟩, fun h2 => ?_⟩, fun h1 => ?_⟩, fun hf => by simp at hf; omega⟩
      · have hr : 0 ≤ adj[v][k] ∧ adj[v][k] < (adj.length : Int) := by simp at h1 h2; omega
        have hne : adj[v][k] ≠ (v : Int) := by simpa using h3
        rw [Ok.getI_iff]
        refine ⟨by omega, hr.1, ?_⟩
        rw [In_eq _ _ (hc _ (List.getElem_mem _))]
        have hg : adj.getD (adj[v][k]).toNat [] = adj[(adj[v][k]).toNat]'(by omega) := by
          rw [List.getD, List.getElem?_eq_getElem (by omega)]; rfl
        simp only [Ok.some_iff]
        refine ⟨fun h4 => .inr ⟨trivial, hbad ?_⟩, fun h4 => ⟨wrap_succ (by omega), fun k' hk' hkk => ?_⟩⟩
        · rintro ⟨_, _, hm⟩
          rw [hg] at hm
          simp [hm] at h4
        · rcases Nat.lt_or_ge k' k with h | h
          · exact hI2 k' hk' h
          · obtain rfl : k' = k := by omega
            refine ⟨hr, hne, ?_⟩
            rw [hg]
            simpa using h4
      · refine .inr ⟨trivial, hbad (fun hh => hh.2.1 ?_)⟩
        simpa using h3
      · refine .inr ⟨trivial, hbad (fun hh => ?_)⟩
        simp at h2; omega
      · refine .inr ⟨trivial, hbad (fun hh => ?_)⟩
        simp at h1; omega
    · rintro _ hI2
      simp only [Ok.bif_iff, Ok.some_iff, Ok.bind_iff, Ok.getN_iff]
      exact ⟨hv, fun hf => by simp at hf, fun _ => .inl ⟨trivial, fun k hk => hI2 k hk hk⟩⟩
  · rintro _ hI
    simp only [Ok.bif_iff, Ok.some_iff]
    exact ⟨fun hf => by simp at hf, fun _ => .inl ⟨trivial, (Valid_iff adj).2 fun v hv => hI v hv hv⟩⟩
theorem nodup_iff {l : List Int} : l.Nodup ↔ ∀ i, (h : i < l.length) → l[i] ∉ l.take i := by
  unfold List.Nodup
  rw [List.pairwise_iff_getElem]
  constructor
  · intro h i hi hm
    obtain ⟨k, hk, e⟩ := List.mem_iff_getElem.1 hm
    simp only [List.length_take] at hk
    simp only [List.getElem_take] at e
    exact h k i (by omega) hi (by omega) e
  · intro h i j hi hj hij e
    exact h j hj (List.mem_iff_getElem.2 ⟨i, by simp; omega, by simp [e]⟩)
end Go.Fw
end
