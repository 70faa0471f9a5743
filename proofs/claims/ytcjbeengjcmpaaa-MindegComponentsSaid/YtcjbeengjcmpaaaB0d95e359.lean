/-
  Parts of the proof: Dn20b, Dn17, Dn16, Tw16, Ok16, Pl2, Pl5, Pl6, Pl8, Pl9, Pl10, Pl11, Pl12, ThT, Th2, Pl16, Pl18, Th3, Pl29, Pl30, Pl33, Pl40, Pl41, Pl42, Pl44, Pl45: the framework (Fw), pure forms (Dn), plain laws (Pl, Th), calls of functions (Ok).
-/
import Derived.RangeFuncBox
import Derived.RangeFuncLeaves
import Derived.Shelf.Abstract
import Derived.WalkKit
import Derived.OwnWalkIn
import Derived.TacticsInMore
import Derived.LoopNIn
import Derived.LoopIn
import Derived.Maps.AppendAt
import Derived.Shelf.Slices.CompactI
import Derived.Lib.OwnBridge
import Derived.Test.YtcjbeengjcmpaaaProg
import Derived.KernelRfl
import Derived.Test.YtcjbeengjcmpaaaBb25e8e12

set_option linter.all false
section
namespace Go.Fw
noncomputable def d_sparselaw20q_small : (((List (List Int)) × Unit) × Unit) → Option (Bool × Unit) := fun (g_1, _) =>
  Option.bind (α := Unit ⊕ (Bool × Unit)) (
  (bif ((decide ((((g_1.1).length : Nat) : Int) > ((12) : Int))) == true) then ((bif ((decide ((((g_1.1).length : Nat) : Int) ≤ ((200) : Int))) == false) then ((bif (decide ((((g_1.1).length : Nat) : Int) > ((400) : Int))) then (
  some (.inr (false, ()))) else (
  some (.inl ())))) else (some (.inr (false, ()))))) else ((bif (decide ((((g_1.1).length : Nat) : Int) > ((400) : Int))) then (
  some (.inr (false, ()))) else (
  some (.inl ())))))) fun q => match q with
  | .inl _ => (
  (loop (σ := (Int × Unit)) (ρ := (Unit ⊕ (Bool × Unit))) (fun (v_2, _) =>
  (bif (decide (v_2 < (((g_1.1).length : Nat) : Int))) then (
  (getI g_1.1 v_2).bind fun y3 =>
  (bif (decide ((((y3).length : Nat) : Int) > ((20) : Int))) then (
  some (.inr (.inr (false, ())))) else (
  some (.inl ((IntKind.i64.wrap (v_2 + ((1) : Int))), ()))))) else (
  some (.inr (.inl ()))))) (((0) : Int), ())).bind fun q => match q with
  | .inl _ => (
  some (true, ()))
  | .inr r => some r)
  | .inr r => some r
noncomputable def d_sparseref20q_Row : (((List (List Int)) × Unit) × Int × Unit) → Option ((List Int) × Int × Unit) := fun (g_1, i_2, _) =>
  (d_sparseref20q_Columns (g_1, ())).bind fun (r15, r16, _) =>
  (bif (r16 != ((0) : Int)) then (
  some ([], r16, ())) else (
  Option.bind (α := Unit ⊕ ((List Int) × Int × Unit)) (
  Option.bind (α := (Bool × Unit)) (
  (bif ((decide (i_2 < ((0) : Int))) == false) then (some ((decide (i_2 ≥ (((r15).length : Nat) : Int))), ())) else (some (true, ())))) fun (s_17, _) =>
  (bif s_17 then (
  some (.inr ([], ((3) : Int), ()))) else (
  some (.inl ())))) fun q => match q with
  | .inl _ => (
  (loop (σ := (Int × (List Int) × Unit)) (ρ := ((List Int) × Unit)) (fun (j_18, out_19, _) =>
  (bif (decide (j_18 < (((r15).length : Nat) : Int))) then (
  Option.bind (α := ((List Int) × Unit)) (
  (getI r15 j_18).bind fun y20 =>
  (d_sparsekit_In (y20, i_2, ())).bind fun (r21, _) =>
  (bif r21 then (
  (limO ((out_19).length + ([j_18]).length)).bind fun _ =>
  some ((out_19 ++ [j_18]), ())) else (
  some (out_19, ())))) fun (out_22, _) =>
  some (.inl ((IntKind.i64.wrap (j_18 + ((1) : Int))), out_22, ()))) else (
  some (.inr (out_19, ()))))) (((0) : Int), [], ())).bind fun (out_23, _) =>
  some (out_23, ((0) : Int), ()))
  | .inr r => some r))
noncomputable def d_graph_vertex : (((List (List Int)) × Unit) × Int × Unit) → Option (Bool × Unit) := fun (g_1, v_2, _) =>
  (bif ((decide (v_2 ≥ ((0) : Int))) == true) then (some ((decide (v_2 < (((g_1.1).length : Nat) : Int))), ())) else (some (false, ())))
noncomputable def d_math_bits_Len32 : (Int × Unit) → Option (Int × Unit) := fun (x_1, _) =>
  Option.bind (α := (Int × Int × Unit)) (
  (bif (decide (x_1 ≥ ((65536) : Int))) then (
  (shrO IntKind.u32 x_1 ((16) : Int)).bind fun y2 =>
  some (y2, ((16) : Int), ())) else (
  some (x_1, ((0) : Int), ())))) fun (x_3, n_4, _) =>
  Option.bind (α := (Int × Int × Unit)) (
  (bif (decide (x_3 ≥ ((256) : Int))) then (
  (shrO IntKind.u32 x_3 ((8) : Int)).bind fun y5 =>
  some (y5, (IntKind.i64.wrap (n_4 + ((8) : Int))), ())) else (
  some (x_3, n_4, ())))) fun (x_6, n_7, _) =>
  (strI lenTab (IntKind.u8.wrap x_6)).bind fun c8 =>
  some ((IntKind.i64.wrap (n_7 + (IntKind.i64.wrap c8))), ())
noncomputable def d_math_bits_Len64 : (Int × Unit) → Option (Int × Unit) := fun (x_1, _) =>
  Option.bind (α := (Int × Int × Unit)) (
  (bif (decide (x_1 ≥ ((4294967296) : Int))) then (
  (shrO IntKind.u64 x_1 ((32) : Int)).bind fun y2 =>
  some (y2, ((32) : Int), ())) else (
  some (x_1, ((0) : Int), ())))) fun (x_3, n_4, _) =>
  Option.bind (α := (Int × Int × Unit)) (
  (bif (decide (x_3 ≥ ((65536) : Int))) then (
  (shrO IntKind.u64 x_3 ((16) : Int)).bind fun y5 =>
  some (y5, (IntKind.i64.wrap (n_4 + ((16) : Int))), ())) else (
  some (x_3, n_4, ())))) fun (x_6, n_7, _) =>
  Option.bind (α := (Int × Int × Unit)) (
  (bif (decide (x_6 ≥ ((256) : Int))) then (
  (shrO IntKind.u64 x_6 ((8) : Int)).bind fun y8 =>
  some (y8, (IntKind.i64.wrap (n_7 + ((8) : Int))), ())) else (
  some (x_6, n_7, ())))) fun (x_9, n_10, _) =>
  (strI lenTab (IntKind.u8.wrap x_9)).bind fun c11 =>
  some ((IntKind.i64.wrap (n_10 + (IntKind.i64.wrap c11))), ())
noncomputable def d_math_bits_Len : (Int × Unit) → Option (Int × Unit) := fun (x_1, _) =>
  (d_math_bits_Len64 (x_1, ())).bind fun (r2, _) =>
  some (r2, ())
noncomputable def d_slices_insertionSortOrdered_int : ((List Int) × Int × Int × Unit) → Option ((List Int) × Unit) := fun (data_1, a_2, b_3, _) =>
  (loop (σ := (Int × (List Int) × Unit)) (ρ := ((List Int) × Unit)) (fun (i_4, data_5, _) =>
  (bif (decide (i_4 < b_3)) then (
  (loop (σ := (Int × (List Int) × Unit)) (ρ := ((List Int) × Unit)) (fun (j_6, data_7, _) =>
  Option.bind (α := ((List Int) × Unit) ⊕ ((Int × (List Int) × Unit) ⊕ ((List Int) × Unit))) (
  (bif ((decide (j_6 > a_2)) == true) then ((idxN (data_7).length j_6).bind fun k8 =>
  ((atO data_7 k8 fun e9 => some e9)).bind fun y10 =>
  (idxN (data_7).length (IntKind.i64.wrap (j_6 - ((1) : Int)))).bind fun k11 =>
  ((atO data_7 k11 fun e12 => some e12)).bind fun y13 =>
  (d_cmp_Less_int (y10, y13, ())).bind fun (r14, _) =>
  (bif r14 then (
  some (.inl (data_7, ()))) else (
  some (.inr (.inr (data_7, ())))))) else (some (.inr (.inr (data_7, ())))))) fun q => match q with
  | .inl (data_15, _) => (
  (idxN (data_15).length (IntKind.i64.wrap (j_6 - ((1) : Int)))).bind fun k16 =>
  ((atO data_15 k16 fun e17 => some e17)).bind fun y18 =>
  (idxN (data_15).length j_6).bind fun k19 =>
  ((atO data_15 k19 fun e20 => some e20)).bind fun y21 =>
  (idxN (data_15).length j_6).bind fun k22 =>
  ((atO data_15 k22 fun _ => some ((data_15).set k22 y18))).bind fun z24 =>
  (idxN (z24).length (IntKind.i64.wrap (j_6 - ((1) : Int)))).bind fun k25 =>
  ((atO z24 k25 fun _ => some ((z24).set k25 y21))).bind fun z27 =>
  some (.inl ((IntKind.i64.wrap (j_6 - ((1) : Int))), z27, ())))
  | .inr r => some r) (i_4, data_5, ())).bind fun (data_28, _) =>
  some (.inl ((IntKind.i64.wrap (i_4 + ((1) : Int))), data_28, ()))) else (
  some (.inr (data_5, ()))))) ((IntKind.i64.wrap (a_2 + ((1) : Int))), data_1, ())).bind fun (data_29, _) =>
  some (data_29, ())
noncomputable def d_slices_siftDownOrdered_int : ((List Int) × Int × Int × Int × Unit) → Option ((List Int) × Unit) := fun (data_1, lo_2, hi_3, first_4, _) =>
  (loop (σ := (Int × (List Int) × Unit)) (ρ := (((List Int) × Unit) ⊕ ((List Int) × Unit))) (fun (root_5, data_6, _) =>
  (bif (decide ((IntKind.i64.wrap ((IntKind.i64.wrap (((2) : Int) * root_5)) + ((1) : Int))) ≥ hi_3)) then (
  some (.inr (.inl (data_6, ())))) else (
  Option.bind (α := (Int × (List Int) × Unit)) (
  Option.bind (α := (Bool × (List Int) × Unit)) (
  (bif ((decide ((IntKind.i64.wrap ((IntKind.i64.wrap ((IntKind.i64.wrap (((2) : Int) * root_5)) + ((1) : Int))) + ((1) : Int))) < hi_3)) == true) then ((idxN (data_6).length (IntKind.i64.wrap (first_4 + (IntKind.i64.wrap ((IntKind.i64.wrap (((2) : Int) * root_5)) + ((1) : Int)))))).bind fun k7 =>
  ((atO data_6 k7 fun e8 => some e8)).bind fun y9 =>
  (idxN (data_6).length (IntKind.i64.wrap ((IntKind.i64.wrap (first_4 + (IntKind.i64.wrap ((IntKind.i64.wrap (((2) : Int) * root_5)) + ((1) : Int))))) + ((1) : Int)))).bind fun k10 =>
  ((atO data_6 k10 fun e11 => some e11)).bind fun y12 =>
  (d_cmp_Less_int (y9, y12, ())).bind fun (r13, _) =>
  some (r13, data_6, ())) else (some (false, data_6, ())))) fun (s_14, data_15, _) =>
  (bif s_14 then (
  some ((IntKind.i64.wrap ((IntKind.i64.wrap ((IntKind.i64.wrap (((2) : Int) * root_5)) + ((1) : Int))) + ((1) : Int))), data_15, ())) else (
  some ((IntKind.i64.wrap ((IntKind.i64.wrap (((2) : Int) * root_5)) + ((1) : Int))), data_15, ())))) fun (child_16, data_17, _) =>
  (idxN (data_17).length (IntKind.i64.wrap (first_4 + root_5))).bind fun k18 =>
  ((atO data_17 k18 fun e19 => some e19)).bind fun y20 =>
  (idxN (data_17).length (IntKind.i64.wrap (first_4 + child_16))).bind fun k21 =>
  ((atO data_17 k21 fun e22 => some e22)).bind fun y23 =>
  (d_cmp_Less_int (y20, y23, ())).bind fun (r24, _) =>
  (bif (!r24) then (
  some (.inr (.inr (data_17, ())))) else (
  (idxN (data_17).length (IntKind.i64.wrap (first_4 + child_16))).bind fun k25 =>
  ((atO data_17 k25 fun e26 => some e26)).bind fun y27 =>
  (idxN (data_17).length (IntKind.i64.wrap (first_4 + root_5))).bind fun k28 =>
  ((atO data_17 k28 fun e29 => some e29)).bind fun y30 =>
  (idxN (data_17).length (IntKind.i64.wrap (first_4 + root_5))).bind fun k31 =>
  ((atO data_17 k31 fun _ => some ((data_17).set k31 y27))).bind fun z33 =>
  (idxN (z33).length (IntKind.i64.wrap (first_4 + child_16))).bind fun k34 =>
  ((atO z33 k34 fun _ => some ((z33).set k34 y30))).bind fun z36 =>
  some (.inl (child_16, z36, ()))))))) (lo_2, data_1, ())).bind fun q => match q with
  | .inl (data_37, _) => (
  some (data_37, ()))
  | .inr r => some r
noncomputable def d_slices_heapSortOrdered_int : ((List Int) × Int × Int × Unit) → Option ((List Int) × Unit) := fun (data_1, a_2, b_3, _) =>
  (quoO IntKind.i64 (IntKind.i64.wrap ((IntKind.i64.wrap (b_3 - a_2)) - ((1) : Int))) ((2) : Int)).bind fun y4 =>
  (loop (σ := (Int × (List Int) × Unit)) (ρ := ((List Int) × Unit)) (fun (i_5, data_6, _) =>
  (bif (decide (i_5 ≥ ((0) : Int))) then (
  (d_slices_siftDownOrdered_int (data_6, i_5, (IntKind.i64.wrap (b_3 - a_2)), a_2, ())).bind fun (m7, _) =>
  some (.inl ((IntKind.i64.wrap (i_5 - ((1) : Int))), m7, ()))) else (
  some (.inr (data_6, ()))))) (y4, data_1, ())).bind fun (data_8, _) =>
  (loop (σ := (Int × (List Int) × Unit)) (ρ := ((List Int) × Unit)) (fun (i_9, data_10, _) =>
  (bif (decide (i_9 ≥ ((0) : Int))) then (
  (idxN (data_10).length (IntKind.i64.wrap (a_2 + i_9))).bind fun k11 =>
  ((atO data_10 k11 fun e12 => some e12)).bind fun y13 =>
  (idxN (data_10).length a_2).bind fun k14 =>
  ((atO data_10 k14 fun e15 => some e15)).bind fun y16 =>
  (idxN (data_10).length a_2).bind fun k17 =>
  ((atO data_10 k17 fun _ => some ((data_10).set k17 y13))).bind fun z19 =>
  (idxN (z19).length (IntKind.i64.wrap (a_2 + i_9))).bind fun k20 =>
  ((atO z19 k20 fun _ => some ((z19).set k20 y16))).bind fun z22 =>
  (d_slices_siftDownOrdered_int (z22, ((0) : Int), i_9, a_2, ())).bind fun (m23, _) =>
  some (.inl ((IntKind.i64.wrap (i_9 - ((1) : Int))), m23, ()))) else (
  some (.inr (data_10, ()))))) ((IntKind.i64.wrap ((IntKind.i64.wrap (b_3 - a_2)) - ((1) : Int))), data_8, ())).bind fun (data_24, _) =>
  some (data_24, ())
noncomputable def d_slices_nextPowerOfTwo : (Int × Unit) → Option (Int × Unit) := fun (length_1, _) =>
  (d_math_bits_Len ((IntKind.u64.wrap length_1), ())).bind fun (r2, _) =>
  (shlO IntKind.u64 ((1) : Int) r2).bind fun y3 =>
  some (y3, ())
noncomputable def d_slices_xorshift_Next : (Int × Unit) → Option (Int × Int × Unit) := fun (r_1, _) =>
  (shlO IntKind.u64 r_1 ((13) : Int)).bind fun y2 =>
  (shrO IntKind.u64 (xorI IntKind.u64 r_1 y2) ((7) : Int)).bind fun y3 =>
  (shlO IntKind.u64 (xorI IntKind.u64 (xorI IntKind.u64 r_1 y2) y3) ((17) : Int)).bind fun y4 =>
  some ((xorI IntKind.u64 (xorI IntKind.u64 (xorI IntKind.u64 r_1 y2) y3) y4), (xorI IntKind.u64 (xorI IntKind.u64 (xorI IntKind.u64 r_1 y2) y3) y4), ())
noncomputable def d_slices_breakPatternsOrdered_int : ((List Int) × Int × Int × Unit) → Option ((List Int) × Unit) := fun (data_1, a_2, b_3, _) =>
  (bif (decide ((IntKind.i64.wrap (b_3 - a_2)) ≥ ((8) : Int))) then (
  (d_slices_nextPowerOfTwo ((IntKind.i64.wrap (b_3 - a_2)), ())).bind fun (r4, _) =>
  (quoO IntKind.i64 (IntKind.i64.wrap (b_3 - a_2)) ((4) : Int)).bind fun y5 =>
  (loop (σ := (Int × (List Int) × Int × Unit)) (ρ := ((List Int) × Unit)) (fun (idx_6, data_7, random_8, _) =>
  (quoO IntKind.i64 (IntKind.i64.wrap (b_3 - a_2)) ((4) : Int)).bind fun y9 =>
  (bif (decide (idx_6 ≤ (IntKind.i64.wrap ((IntKind.i64.wrap (a_2 + (IntKind.i64.wrap (y9 * ((2) : Int))))) + ((1) : Int))))) then (
  Option.bind (α := ((List Int) × Int × Unit)) (
  (d_slices_xorshift_Next (random_8, ())).bind fun (m10, r11, _) =>
  Option.bind (α := (Int × (List Int) × Int × Unit)) (
  (bif (decide ((IntKind.i64.wrap (andI IntKind.u64 r11 (IntKind.u64.wrap (r4 - ((1) : Int))))) ≥ (IntKind.i64.wrap (b_3 - a_2)))) then (
  some ((IntKind.i64.wrap ((IntKind.i64.wrap (andI IntKind.u64 r11 (IntKind.u64.wrap (r4 - ((1) : Int))))) - (IntKind.i64.wrap (b_3 - a_2)))), data_7, m10, ())) else (
  some ((IntKind.i64.wrap (andI IntKind.u64 r11 (IntKind.u64.wrap (r4 - ((1) : Int))))), data_7, m10, ())))) fun (other_12, data_13, random_14, _) =>
  (idxN (data_13).length (IntKind.i64.wrap (a_2 + other_12))).bind fun k15 =>
  ((atO data_13 k15 fun e16 => some e16)).bind fun y17 =>
  (idxN (data_13).length idx_6).bind fun k18 =>
  ((atO data_13 k18 fun e19 => some e19)).bind fun y20 =>
  (idxN (data_13).length idx_6).bind fun k21 =>
  ((atO data_13 k21 fun _ => some ((data_13).set k21 y17))).bind fun z23 =>
  (idxN (z23).length (IntKind.i64.wrap (a_2 + other_12))).bind fun k24 =>
  ((atO z23 k24 fun _ => some ((z23).set k24 y20))).bind fun z26 =>
  some (z26, random_14, ())) fun (data_27, random_28, _) =>
  some (.inl ((IntKind.i64.wrap (idx_6 + ((1) : Int))), data_27, random_28, ()))) else (
  some (.inr (data_7, ()))))) ((IntKind.i64.wrap ((IntKind.i64.wrap (a_2 + (IntKind.i64.wrap (y5 * ((2) : Int))))) - ((1) : Int))), data_1, (IntKind.u64.wrap (IntKind.i64.wrap (b_3 - a_2))), ())).bind fun (data_29, _) =>
  some (data_29, ())) else (
  some (data_1, ())))
noncomputable def d_slices_order2Ordered_int : ((List Int) × Int × Int × Int × Unit) → Option (Int × Int × Int × Unit) := fun (data_1, a_2, b_3, swaps_4, _) =>
  (getI data_1 b_3).bind fun y5 =>
  (getI data_1 a_2).bind fun y6 =>
  (d_cmp_Less_int (y5, y6, ())).bind fun (r7, _) =>
  (bif r7 then (
  some ((IntKind.i64.wrap (swaps_4 + ((1) : Int))), b_3, a_2, ())) else (
  some (swaps_4, a_2, b_3, ())))
noncomputable def d_slices_medianOrdered_int : ((List Int) × Int × Int × Int × Int × Unit) → Option (Int × Int × Unit) := fun (data_1, a_2, b_3, c_4, swaps_5, _) =>
  (d_slices_order2Ordered_int (data_1, a_2, b_3, swaps_5, ())).bind fun (m6, r7, r8, _) =>
  (d_slices_order2Ordered_int (data_1, r8, c_4, m6, ())).bind fun (m9, r10, _, _) =>
  (d_slices_order2Ordered_int (data_1, r7, r10, m9, ())).bind fun (m12, _, r14, _) =>
  some (m12, r14, ())
noncomputable def d_slices_medianAdjacentOrdered_int : ((List Int) × Int × Int × Unit) → Option (Int × Int × Unit) := fun (data_1, a_2, swaps_3, _) =>
  (d_slices_medianOrdered_int (data_1, (IntKind.i64.wrap (a_2 - ((1) : Int))), a_2, (IntKind.i64.wrap (a_2 + ((1) : Int))), swaps_3, ())).bind fun (m4, r5, _) =>
  some (m4, r5, ())
noncomputable def d_slices_choosePivotOrdered_int : ((List Int) × Int × Int × Unit) → Option (Int × Int × Unit) := fun (data_1, a_2, b_3, _) =>
  (quoO IntKind.i64 (IntKind.i64.wrap (b_3 - a_2)) ((4) : Int)).bind fun y4 =>
  (quoO IntKind.i64 (IntKind.i64.wrap (b_3 - a_2)) ((4) : Int)).bind fun y5 =>
  (quoO IntKind.i64 (IntKind.i64.wrap (b_3 - a_2)) ((4) : Int)).bind fun y6 =>
  Option.bind (α := (Int × Int × Unit)) (
  (bif (decide ((IntKind.i64.wrap (b_3 - a_2)) ≥ ((8) : Int))) then (
  Option.bind (α := (Int × Int × Int × Int × Unit)) (
  (bif (decide ((IntKind.i64.wrap (b_3 - a_2)) ≥ ((50) : Int))) then (
  (d_slices_medianAdjacentOrdered_int (data_1, (IntKind.i64.wrap (a_2 + (IntKind.i64.wrap (y4 * ((1) : Int))))), (0 : Int), ())).bind fun (m7, r8, _) =>
  (d_slices_medianAdjacentOrdered_int (data_1, (IntKind.i64.wrap (a_2 + (IntKind.i64.wrap (y5 * ((2) : Int))))), m7, ())).bind fun (m9, r10, _) =>
  (d_slices_medianAdjacentOrdered_int (data_1, (IntKind.i64.wrap (a_2 + (IntKind.i64.wrap (y6 * ((3) : Int))))), m9, ())).bind fun (m11, r12, _) =>
  some (r8, r10, r12, m11, ())) else (
  some ((IntKind.i64.wrap (a_2 + (IntKind.i64.wrap (y4 * ((1) : Int))))), (IntKind.i64.wrap (a_2 + (IntKind.i64.wrap (y5 * ((2) : Int))))), (IntKind.i64.wrap (a_2 + (IntKind.i64.wrap (y6 * ((3) : Int))))), (0 : Int), ())))) fun (i_13, j_14, k_15, swaps_16, _) =>
  (d_slices_medianOrdered_int (data_1, i_13, j_14, k_15, swaps_16, ())).bind fun (m17, r18, _) =>
  some (r18, m17, ())) else (
  some ((IntKind.i64.wrap (a_2 + (IntKind.i64.wrap (y5 * ((2) : Int))))), (0 : Int), ())))) fun (j_19, swaps_20, _) =>
  (bif (swaps_20 == ((0) : Int)) then (
  some (j_19, ((1) : Int), ())) else (
  (bif (swaps_20 == ((12) : Int)) then (
  some (j_19, ((2) : Int), ())) else (
  some (j_19, ((0) : Int), ())))))
noncomputable def d_slices_reverseRangeOrdered_int : ((List Int) × Int × Int × Unit) → Option ((List Int) × Unit) := fun (data_1, a_2, b_3, _) =>
  (loop (σ := (Int × Int × (List Int) × Unit)) (ρ := ((List Int) × Unit)) (fun (i_4, j_5, data_6, _) =>
  (bif (decide (i_4 < j_5)) then (
  (idxN (data_6).length j_5).bind fun k7 =>
  ((atO data_6 k7 fun e8 => some e8)).bind fun y9 =>
  (idxN (data_6).length i_4).bind fun k10 =>
  ((atO data_6 k10 fun e11 => some e11)).bind fun y12 =>
  (idxN (data_6).length i_4).bind fun k13 =>
  ((atO data_6 k13 fun _ => some ((data_6).set k13 y9))).bind fun z15 =>
  (idxN (z15).length j_5).bind fun k16 =>
  ((atO z15 k16 fun _ => some ((z15).set k16 y12))).bind fun z18 =>
  some (.inl ((IntKind.i64.wrap (i_4 + ((1) : Int))), (IntKind.i64.wrap (j_5 - ((1) : Int))), z18, ()))) else (
  some (.inr (data_6, ()))))) (a_2, (IntKind.i64.wrap (b_3 - ((1) : Int))), data_1, ())).bind fun (data_19, _) =>
  some (data_19, ())
noncomputable def d_slices_partialInsertionSortOrdered_int : ((List Int) × Int × Int × Unit) → Option ((List Int) × Bool × Unit) := fun (data_1, a_2, b_3, _) =>
  (loop (σ := (Int × Int × (List Int) × Unit)) (ρ := (((List Int) × Unit) ⊕ ((List Int) × Bool × Unit))) (fun (i_4, j_5, data_6, _) =>
  (bif (decide (j_5 < ((5) : Int))) then (
  Option.bind (α := (Int × (List Int) × Unit) ⊕ ((Int × Int × (List Int) × Unit) ⊕ (((List Int) × Unit) ⊕ ((List Int) × Bool × Unit)))) (
  (loop (σ := (Int × (List Int) × Unit)) (ρ := (Int × (List Int) × Unit)) (fun (i_7, data_8, _) =>
  Option.bind (α := ((List Int) × Unit) ⊕ ((Int × (List Int) × Unit) ⊕ (Int × (List Int) × Unit))) (
  (bif ((decide (i_7 < b_3)) == true) then ((idxN (data_8).length i_7).bind fun k9 =>
  ((atO data_8 k9 fun e10 => some e10)).bind fun y11 =>
  (idxN (data_8).length (IntKind.i64.wrap (i_7 - ((1) : Int)))).bind fun k12 =>
  ((atO data_8 k12 fun e13 => some e13)).bind fun y14 =>
  (d_cmp_Less_int (y11, y14, ())).bind fun (r15, _) =>
  (bif (!r15) then (
  some (.inl (data_8, ()))) else (
  some (.inr (.inr (i_7, data_8, ())))))) else (some (.inr (.inr (i_7, data_8, ())))))) fun q => match q with
  | .inl (data_16, _) => (
  some (.inl ((IntKind.i64.wrap (i_7 + ((1) : Int))), data_16, ())))
  | .inr r => some r) (i_4, data_6, ())).bind fun (i_17, data_18, _) =>
  (bif (i_17 == b_3) then (
  some (.inr (.inr (.inr (data_18, true, ()))))) else (
  (bif (decide ((IntKind.i64.wrap (b_3 - a_2)) < ((50) : Int))) then (
  some (.inr (.inr (.inr (data_18, false, ()))))) else (
  (idxN (data_18).length (IntKind.i64.wrap (i_17 - ((1) : Int)))).bind fun k19 =>
  ((atO data_18 k19 fun e20 => some e20)).bind fun y21 =>
  (idxN (data_18).length i_17).bind fun k22 =>
  ((atO data_18 k22 fun e23 => some e23)).bind fun y24 =>
  (idxN (data_18).length i_17).bind fun k25 =>
  ((atO data_18 k25 fun _ => some ((data_18).set k25 y21))).bind fun z27 =>
  (idxN (z27).length (IntKind.i64.wrap (i_17 - ((1) : Int)))).bind fun k28 =>
  ((atO z27 k28 fun _ => some ((z27).set k28 y24))).bind fun z30 =>
  Option.bind (α := ((List Int) × Unit)) (
  (bif (decide ((IntKind.i64.wrap (i_17 - a_2)) ≥ ((2) : Int))) then (
  (loop (σ := (Int × (List Int) × Unit)) (ρ := ((List Int) × Unit)) (fun (j_31, data_32, _) =>
  (bif (decide (j_31 ≥ ((1) : Int))) then (
  (idxN (data_32).length j_31).bind fun k33 =>
  ((atO data_32 k33 fun e34 => some e34)).bind fun y35 =>
  (idxN (data_32).length (IntKind.i64.wrap (j_31 - ((1) : Int)))).bind fun k36 =>
  ((atO data_32 k36 fun e37 => some e37)).bind fun y38 =>
  (d_cmp_Less_int (y35, y38, ())).bind fun (r39, _) =>
  (bif (!r39) then (
  some (.inr (data_32, ()))) else (
  (idxN (data_32).length (IntKind.i64.wrap (j_31 - ((1) : Int)))).bind fun k40 =>
  ((atO data_32 k40 fun e41 => some e41)).bind fun y42 =>
  (idxN (data_32).length j_31).bind fun k43 =>
  ((atO data_32 k43 fun e44 => some e44)).bind fun y45 =>
  (idxN (data_32).length j_31).bind fun k46 =>
  ((atO data_32 k46 fun _ => some ((data_32).set k46 y42))).bind fun z48 =>
  (idxN (z48).length (IntKind.i64.wrap (j_31 - ((1) : Int)))).bind fun k49 =>
  ((atO z48 k49 fun _ => some ((z48).set k49 y45))).bind fun z51 =>
  some (.inl ((IntKind.i64.wrap (j_31 - ((1) : Int))), z51, ()))))) else (
  some (.inr (data_32, ()))))) ((IntKind.i64.wrap (i_17 - ((1) : Int))), z30, ())).bind fun (data_52, _) =>
  some (data_52, ())) else (
  some (z30, ())))) fun (data_53, _) =>
  (bif (decide ((IntKind.i64.wrap (b_3 - i_17)) ≥ ((2) : Int))) then (
  (loop (σ := (Int × (List Int) × Unit)) (ρ := ((List Int) × Unit)) (fun (j_54, data_55, _) =>
  (bif (decide (j_54 < b_3)) then (
  (idxN (data_55).length j_54).bind fun k56 =>
  ((atO data_55 k56 fun e57 => some e57)).bind fun y58 =>
  (idxN (data_55).length (IntKind.i64.wrap (j_54 - ((1) : Int)))).bind fun k59 =>
  ((atO data_55 k59 fun e60 => some e60)).bind fun y61 =>
  (d_cmp_Less_int (y58, y61, ())).bind fun (r62, _) =>
  (bif (!r62) then (
  some (.inr (data_55, ()))) else (
  (idxN (data_55).length (IntKind.i64.wrap (j_54 - ((1) : Int)))).bind fun k63 =>
  ((atO data_55 k63 fun e64 => some e64)).bind fun y65 =>
  (idxN (data_55).length j_54).bind fun k66 =>
  ((atO data_55 k66 fun e67 => some e67)).bind fun y68 =>
  (idxN (data_55).length j_54).bind fun k69 =>
  ((atO data_55 k69 fun _ => some ((data_55).set k69 y65))).bind fun z71 =>
  (idxN (z71).length (IntKind.i64.wrap (j_54 - ((1) : Int)))).bind fun k72 =>
  ((atO z71 k72 fun _ => some ((z71).set k72 y68))).bind fun z74 =>
  some (.inl ((IntKind.i64.wrap (j_54 + ((1) : Int))), z74, ()))))) else (
  some (.inr (data_55, ()))))) ((IntKind.i64.wrap (i_17 + ((1) : Int))), data_53, ())).bind fun (data_75, _) =>
  some (.inl (i_17, data_75, ()))) else (
  some (.inl (i_17, data_53, ()))))))))) fun q => match q with
  | .inl (i_76, data_77, _) => (
  some (.inl (i_76, (IntKind.i64.wrap (j_5 + ((1) : Int))), data_77, ())))
  | .inr r => some r) else (
  some (.inr (.inl (data_6, ())))))) ((IntKind.i64.wrap (a_2 + ((1) : Int))), ((0) : Int), data_1, ())).bind fun q => match q with
  | .inl (data_78, _) => (
  some (data_78, false, ()))
  | .inr r => some r
noncomputable def d_slices_partitionEqualOrdered_int : ((List Int) × Int × Int × Int × Unit) → Option ((List Int) × Int × Unit) := fun (data_1, a_2, b_3, pivot_4, _) =>
  (idxN (data_1).length pivot_4).bind fun k5 =>
  ((atO data_1 k5 fun e6 => some e6)).bind fun y7 =>
  (idxN (data_1).length a_2).bind fun k8 =>
  ((atO data_1 k8 fun e9 => some e9)).bind fun y10 =>
  (idxN (data_1).length a_2).bind fun k11 =>
  ((atO data_1 k11 fun _ => some ((data_1).set k11 y7))).bind fun z13 =>
  (idxN (z13).length pivot_4).bind fun k14 =>
  ((atO z13 k14 fun _ => some ((z13).set k14 y10))).bind fun z16 =>
  (loop (σ := (Int × Int × (List Int) × Unit)) (ρ := (Int × (List Int) × Unit)) (fun (i_17, j_18, data_19, _) =>
  (loop (σ := (Int × (List Int) × Unit)) (ρ := (Int × (List Int) × Unit)) (fun (i_20, data_21, _) =>
  Option.bind (α := ((List Int) × Unit) ⊕ ((Int × (List Int) × Unit) ⊕ (Int × (List Int) × Unit))) (
  (bif ((decide (i_20 ≤ j_18)) == true) then ((idxN (data_21).length a_2).bind fun k22 =>
  ((atO data_21 k22 fun e23 => some e23)).bind fun y24 =>
  (idxN (data_21).length i_20).bind fun k25 =>
  ((atO data_21 k25 fun e26 => some e26)).bind fun y27 =>
  (d_cmp_Less_int (y24, y27, ())).bind fun (r28, _) =>
  (bif (!r28) then (
  some (.inl (data_21, ()))) else (
  some (.inr (.inr (i_20, data_21, ())))))) else (some (.inr (.inr (i_20, data_21, ())))))) fun q => match q with
  | .inl (data_29, _) => (
  some (.inl ((IntKind.i64.wrap (i_20 + ((1) : Int))), data_29, ())))
  | .inr r => some r) (i_17, data_19, ())).bind fun (i_30, data_31, _) =>
  (loop (σ := (Int × (List Int) × Unit)) (ρ := (Int × (List Int) × Unit)) (fun (j_32, data_33, _) =>
  Option.bind (α := ((List Int) × Unit) ⊕ ((Int × (List Int) × Unit) ⊕ (Int × (List Int) × Unit))) (
  (bif ((decide (i_30 ≤ j_32)) == true) then ((idxN (data_33).length a_2).bind fun k34 =>
  ((atO data_33 k34 fun e35 => some e35)).bind fun y36 =>
  (idxN (data_33).length j_32).bind fun k37 =>
  ((atO data_33 k37 fun e38 => some e38)).bind fun y39 =>
  (d_cmp_Less_int (y36, y39, ())).bind fun (r40, _) =>
  (bif r40 then (
  some (.inl (data_33, ()))) else (
  some (.inr (.inr (j_32, data_33, ())))))) else (some (.inr (.inr (j_32, data_33, ())))))) fun q => match q with
  | .inl (data_41, _) => (
  some (.inl ((IntKind.i64.wrap (j_32 - ((1) : Int))), data_41, ())))
  | .inr r => some r) (j_18, data_31, ())).bind fun (j_42, data_43, _) =>
  (bif (decide (i_30 > j_42)) then (
  some (.inr (i_30, data_43, ()))) else (
  (idxN (data_43).length j_42).bind fun k44 =>
  ((atO data_43 k44 fun e45 => some e45)).bind fun y46 =>
  (idxN (data_43).length i_30).bind fun k47 =>
  ((atO data_43 k47 fun e48 => some e48)).bind fun y49 =>
  (idxN (data_43).length i_30).bind fun k50 =>
  ((atO data_43 k50 fun _ => some ((data_43).set k50 y46))).bind fun z52 =>
  (idxN (z52).length j_42).bind fun k53 =>
  ((atO z52 k53 fun _ => some ((z52).set k53 y49))).bind fun z55 =>
  some (.inl ((IntKind.i64.wrap (i_30 + ((1) : Int))), (IntKind.i64.wrap (j_42 - ((1) : Int))), z55, ()))))) ((IntKind.i64.wrap (a_2 + ((1) : Int))), (IntKind.i64.wrap (b_3 - ((1) : Int))), z16, ())).bind fun (i_56, data_57, _) =>
  some (data_57, i_56, ())
noncomputable def d_slices_partitionOrdered_int : ((List Int) × Int × Int × Int × Unit) → Option ((List Int) × Int × Bool × Unit) := fun (data_1, a_2, b_3, pivot_4, _) =>
  (idxN (data_1).length pivot_4).bind fun k5 =>
  ((atO data_1 k5 fun e6 => some e6)).bind fun y7 =>
  (idxN (data_1).length a_2).bind fun k8 =>
  ((atO data_1 k8 fun e9 => some e9)).bind fun y10 =>
  (idxN (data_1).length a_2).bind fun k11 =>
  ((atO data_1 k11 fun _ => some ((data_1).set k11 y7))).bind fun z13 =>
  (idxN (z13).length pivot_4).bind fun k14 =>
  ((atO z13 k14 fun _ => some ((z13).set k14 y10))).bind fun z16 =>
  (loop (σ := (Int × (List Int) × Unit)) (ρ := (Int × (List Int) × Unit)) (fun (i_17, data_18, _) =>
  Option.bind (α := ((List Int) × Unit) ⊕ ((Int × (List Int) × Unit) ⊕ (Int × (List Int) × Unit))) (
  (bif ((decide (i_17 ≤ (IntKind.i64.wrap (b_3 - ((1) : Int))))) == true) then ((idxN (data_18).length i_17).bind fun k19 =>
  ((atO data_18 k19 fun e20 => some e20)).bind fun y21 =>
  (idxN (data_18).length a_2).bind fun k22 =>
  ((atO data_18 k22 fun e23 => some e23)).bind fun y24 =>
  (d_cmp_Less_int (y21, y24, ())).bind fun (r25, _) =>
  (bif r25 then (
  some (.inl (data_18, ()))) else (
  some (.inr (.inr (i_17, data_18, ())))))) else (some (.inr (.inr (i_17, data_18, ())))))) fun q => match q with
  | .inl (data_26, _) => (
  some (.inl ((IntKind.i64.wrap (i_17 + ((1) : Int))), data_26, ())))
  | .inr r => some r) ((IntKind.i64.wrap (a_2 + ((1) : Int))), z16, ())).bind fun (i_27, data_28, _) =>
  (loop (σ := (Int × (List Int) × Unit)) (ρ := (Int × (List Int) × Unit)) (fun (j_29, data_30, _) =>
  Option.bind (α := ((List Int) × Unit) ⊕ ((Int × (List Int) × Unit) ⊕ (Int × (List Int) × Unit))) (
  (bif ((decide (i_27 ≤ j_29)) == true) then ((idxN (data_30).length j_29).bind fun k31 =>
  ((atO data_30 k31 fun e32 => some e32)).bind fun y33 =>
  (idxN (data_30).length a_2).bind fun k34 =>
  ((atO data_30 k34 fun e35 => some e35)).bind fun y36 =>
  (d_cmp_Less_int (y33, y36, ())).bind fun (r37, _) =>
  (bif (!r37) then (
  some (.inl (data_30, ()))) else (
  some (.inr (.inr (j_29, data_30, ())))))) else (some (.inr (.inr (j_29, data_30, ())))))) fun q => match q with
  | .inl (data_38, _) => (
  some (.inl ((IntKind.i64.wrap (j_29 - ((1) : Int))), data_38, ())))
  | .inr r => some r) ((IntKind.i64.wrap (b_3 - ((1) : Int))), data_28, ())).bind fun (j_39, data_40, _) =>
  (bif (decide (i_27 > j_39)) then (
  (idxN (data_40).length a_2).bind fun k41 =>
  ((atO data_40 k41 fun e42 => some e42)).bind fun y43 =>
  (idxN (data_40).length j_39).bind fun k44 =>
  ((atO data_40 k44 fun e45 => some e45)).bind fun y46 =>
  (idxN (data_40).length j_39).bind fun k47 =>
  ((atO data_40 k47 fun _ => some ((data_40).set k47 y43))).bind fun z49 =>
  (idxN (z49).length a_2).bind fun k50 =>
  ((atO z49 k50 fun _ => some ((z49).set k50 y46))).bind fun z52 =>
  some (z52, j_39, true, ())) else (
  (idxN (data_40).length j_39).bind fun k53 =>
  ((atO data_40 k53 fun e54 => some e54)).bind fun y55 =>
  (idxN (data_40).length i_27).bind fun k56 =>
  ((atO data_40 k56 fun e57 => some e57)).bind fun y58 =>
  (idxN (data_40).length i_27).bind fun k59 =>
  ((atO data_40 k59 fun _ => some ((data_40).set k59 y55))).bind fun z61 =>
  (idxN (z61).length j_39).bind fun k62 =>
  ((atO z61 k62 fun _ => some ((z61).set k62 y58))).bind fun z64 =>
  (loop (σ := (Int × Int × (List Int) × Unit)) (ρ := (Int × (List Int) × Unit)) (fun (i_65, j_66, data_67, _) =>
  (loop (σ := (Int × (List Int) × Unit)) (ρ := (Int × (List Int) × Unit)) (fun (i_68, data_69, _) =>
  Option.bind (α := ((List Int) × Unit) ⊕ ((Int × (List Int) × Unit) ⊕ (Int × (List Int) × Unit))) (
  (bif ((decide (i_68 ≤ j_66)) == true) then ((idxN (data_69).length i_68).bind fun k70 =>
  ((atO data_69 k70 fun e71 => some e71)).bind fun y72 =>
  (idxN (data_69).length a_2).bind fun k73 =>
  ((atO data_69 k73 fun e74 => some e74)).bind fun y75 =>
  (d_cmp_Less_int (y72, y75, ())).bind fun (r76, _) =>
  (bif r76 then (
  some (.inl (data_69, ()))) else (
  some (.inr (.inr (i_68, data_69, ())))))) else (some (.inr (.inr (i_68, data_69, ())))))) fun q => match q with
  | .inl (data_77, _) => (
  some (.inl ((IntKind.i64.wrap (i_68 + ((1) : Int))), data_77, ())))
  | .inr r => some r) (i_65, data_67, ())).bind fun (i_78, data_79, _) =>
  (loop (σ := (Int × (List Int) × Unit)) (ρ := (Int × (List Int) × Unit)) (fun (j_80, data_81, _) =>
  Option.bind (α := ((List Int) × Unit) ⊕ ((Int × (List Int) × Unit) ⊕ (Int × (List Int) × Unit))) (
  (bif ((decide (i_78 ≤ j_80)) == true) then ((idxN (data_81).length j_80).bind fun k82 =>
  ((atO data_81 k82 fun e83 => some e83)).bind fun y84 =>
  (idxN (data_81).length a_2).bind fun k85 =>
  ((atO data_81 k85 fun e86 => some e86)).bind fun y87 =>
  (d_cmp_Less_int (y84, y87, ())).bind fun (r88, _) =>
  (bif (!r88) then (
  some (.inl (data_81, ()))) else (
  some (.inr (.inr (j_80, data_81, ())))))) else (some (.inr (.inr (j_80, data_81, ())))))) fun q => match q with
  | .inl (data_89, _) => (
  some (.inl ((IntKind.i64.wrap (j_80 - ((1) : Int))), data_89, ())))
  | .inr r => some r) (j_66, data_79, ())).bind fun (j_90, data_91, _) =>
  (bif (decide (i_78 > j_90)) then (
  some (.inr (j_90, data_91, ()))) else (
  (idxN (data_91).length j_90).bind fun k92 =>
  ((atO data_91 k92 fun e93 => some e93)).bind fun y94 =>
  (idxN (data_91).length i_78).bind fun k95 =>
  ((atO data_91 k95 fun e96 => some e96)).bind fun y97 =>
  (idxN (data_91).length i_78).bind fun k98 =>
  ((atO data_91 k98 fun _ => some ((data_91).set k98 y94))).bind fun z100 =>
  (idxN (z100).length j_90).bind fun k101 =>
  ((atO z100 k101 fun _ => some ((z100).set k101 y97))).bind fun z103 =>
  some (.inl ((IntKind.i64.wrap (i_78 + ((1) : Int))), (IntKind.i64.wrap (j_90 - ((1) : Int))), z103, ()))))) ((IntKind.i64.wrap (i_27 + ((1) : Int))), (IntKind.i64.wrap (j_39 - ((1) : Int))), z64, ())).bind fun (j_104, data_105, _) =>
  (idxN (data_105).length a_2).bind fun k106 =>
  ((atO data_105 k106 fun e107 => some e107)).bind fun y108 =>
  (idxN (data_105).length j_104).bind fun k109 =>
  ((atO data_105 k109 fun e110 => some e110)).bind fun y111 =>
  (idxN (data_105).length j_104).bind fun k112 =>
  ((atO data_105 k112 fun _ => some ((data_105).set k112 y108))).bind fun z114 =>
  (idxN (z114).length a_2).bind fun k115 =>
  ((atO z114 k115 fun _ => some ((z114).set k115 y111))).bind fun z117 =>
  some (z117, j_104, false, ())))
noncomputable def r_slices_pdqsortOrdered_intq_s (f_ : ((List Int) × Int × Int × Int × Unit) → Option ((List Int) × Unit)) : ((List Int) × Int × Int × Int × Unit) → Option ((List Int) × Unit) := fun (data_1, a_2, b_3, limit_4, _) =>
  (loop (σ := (Int × Int × Int × Bool × Bool × (List Int) × Unit)) (ρ := ((List Int) × Unit)) (fun (a_5, b_6, limit_7, wasBalanced_8, wasPartitioned_9, data_10, _) =>
  (bif (decide ((IntKind.i64.wrap (b_6 - a_5)) ≤ ((12) : Int))) then (
  (d_slices_insertionSortOrdered_int (data_10, a_5, b_6, ())).bind fun (m11, _) =>
  some (.inr (m11, ()))) else (
  (bif (limit_7 == ((0) : Int)) then (
  (d_slices_heapSortOrdered_int (data_10, a_5, b_6, ())).bind fun (m12, _) =>
  some (.inr (m12, ()))) else (
  Option.bind (α := (Int × (List Int) × Unit)) (
  (bif (!wasBalanced_8) then (
  (d_slices_breakPatternsOrdered_int (data_10, a_5, b_6, ())).bind fun (m13, _) =>
  some ((IntKind.i64.wrap (limit_7 - ((1) : Int))), m13, ())) else (
  some (limit_7, data_10, ())))) fun (limit_14, data_15, _) =>
  (d_slices_choosePivotOrdered_int (data_15, a_5, b_6, ())).bind fun (r16, r17, _) =>
  Option.bind (α := (Int × Int × (List Int) × Unit)) (
  (bif (r17 == ((2) : Int)) then (
  (d_slices_reverseRangeOrdered_int (data_15, a_5, b_6, ())).bind fun (m18, _) =>
  some ((IntKind.i64.wrap ((IntKind.i64.wrap (b_6 - ((1) : Int))) - (IntKind.i64.wrap (r16 - a_5)))), ((1) : Int), m18, ())) else (
  some (r16, r17, data_15, ())))) fun (pivot_19, hint_20, data_21, _) =>
  Option.bind (α := ((List Int) × Unit) ⊕ ((Int × Int × Int × Bool × Bool × (List Int) × Unit) ⊕ ((List Int) × Unit))) (
  Option.bind (α := (Bool × (List Int) × Unit)) (
  (bif (wasBalanced_8 == true) then ((bif (wasPartitioned_9 == true) then (some ((hint_20 == ((1) : Int)), data_21, ())) else (some (false, data_21, ())))) else (some (false, data_21, ())))) fun (s_22, data_23, _) =>
  (bif s_22 then (
  (d_slices_partialInsertionSortOrdered_int (data_23, a_5, b_6, ())).bind fun (m24, r25, _) =>
  (bif r25 then (
  some (.inr (.inr (m24, ())))) else (
  some (.inl (m24, ()))))) else (
  some (.inl (data_23, ()))))) fun q => match q with
  | .inl (data_26, _) => (
  Option.bind (α := (Int × (List Int) × Unit) ⊕ ((Int × Int × Int × Bool × Bool × (List Int) × Unit) ⊕ ((List Int) × Unit))) (
  Option.bind (α := (Bool × (List Int) × Unit)) (
  (bif ((decide (a_5 > ((0) : Int))) == true) then ((idxN (data_26).length (IntKind.i64.wrap (a_5 - ((1) : Int)))).bind fun k27 =>
  ((atO data_26 k27 fun e28 => some e28)).bind fun y29 =>
  (idxN (data_26).length pivot_19).bind fun k30 =>
  ((atO data_26 k30 fun e31 => some e31)).bind fun y32 =>
  (d_cmp_Less_int (y29, y32, ())).bind fun (r33, _) =>
  some ((!r33), data_26, ())) else (some (false, data_26, ())))) fun (s_34, data_35, _) =>
  (bif s_34 then (
  (d_slices_partitionEqualOrdered_int (data_35, a_5, b_6, pivot_19, ())).bind fun (m36, r37, _) =>
  some (.inr (.inl (r37, b_6, limit_14, wasBalanced_8, wasPartitioned_9, m36, ())))) else (
  some (.inl (a_5, data_35, ()))))) fun q => match q with
  | .inl (a_38, data_39, _) => (
  (d_slices_partitionOrdered_int (data_39, a_38, b_6, pivot_19, ())).bind fun (m40, r41, r42, _) =>
  (quoO IntKind.i64 (IntKind.i64.wrap (b_6 - a_5)) ((8) : Int)).bind fun y43 =>
  (bif (decide ((IntKind.i64.wrap (r41 - a_38)) < (IntKind.i64.wrap (b_6 - r41)))) then (
  (f_ (m40, a_38, r41, limit_14, ())).bind fun (m44, _) =>
  some (.inl ((IntKind.i64.wrap (r41 + ((1) : Int))), b_6, limit_14, (decide ((IntKind.i64.wrap (r41 - a_38)) ≥ y43)), r42, m44, ()))) else (
  (f_ (m40, (IntKind.i64.wrap (r41 + ((1) : Int))), b_6, limit_14, ())).bind fun (m45, _) =>
  some (.inl (a_38, r41, limit_14, (decide ((IntKind.i64.wrap (b_6 - r41)) ≥ y43)), r42, m45, ())))))
  | .inr r => some r)
  | .inr r => some r))))) (a_2, b_3, limit_4, true, true, data_1, ())).bind some
noncomputable def r_slices_pdqsortOrdered_int : Nat → ((List Int) × Int × Int × Int × Unit) → Option ((List Int) × Unit) := deep r_slices_pdqsortOrdered_intq_s
set_option maxHeartbeats 4000000 in
theorem r_slices_pdqsortOrdered_intq_mono (f_ fb_ : ((List Int) × Int × Int × Int × Unit) → Option ((List Int) × Unit)) (h_ : ∀ a, Le (f_ a) (fb_ a)) (a : ((List Int) × Int × Int × Int × Unit)) : Le (r_slices_pdqsortOrdered_intq_s f_ a) (r_slices_pdqsortOrdered_intq_s fb_ a) := by
  unfold r_slices_pdqsortOrdered_intq_s
  repeat' (first | with_reducible exact Le.refl _ | with_reducible exact h_ _ | (with_reducible refine Le.bind ?_ (fun y => ?_)) | (with_reducible refine Le.bif ?_ ?_) | (with_reducible refine Le.loop2 (fun s => ?_) _) | (with_reducible refine Le.atO (fun e => ?_)) | split)
noncomputable def d_slices_pdqsortOrdered_int : ((List Int) × Int × Int × Int × Unit) → Option ((List Int) × Unit) := fixO r_slices_pdqsortOrdered_int
noncomputable def d_slices_Sort_int_int : ((List Int) × Unit) → Option ((List Int) × Unit) := fun (x_1, _) =>
  (d_math_bits_Len ((IntKind.u64.wrap (((x_1).length : Nat) : Int)), ())).bind fun (r2, _) =>
  (d_slices_pdqsortOrdered_int (x_1, ((0) : Int), (((x_1).length : Nat) : Int), r2, ())).bind fun (m3, _) =>
  some (m3, ())
noncomputable def d_graph_twice : List Int × Unit → Option (Bool × Unit) := fun a => (twSem (fun l => (d_slices_Sort_int_int (l, ())).map fun r => r.1) a.1).map fun b => (b, ())
noncomputable def d_graph_Permuted_1q_q0 : (Int × (Option ((List (List Int)) × Unit)) × Unit) → Option (Bool × Unit) := fun (v_1, p_2, _) =>
  (p_2).bind fun y3 =>
  (d_graph_vertex (y3, v_1, ())).bind fun (r4, _) =>
  some ((!r4), ())
noncomputable def d_slices_IndexFunc_int_int_q0 : ((List Int) × ((Option ((List (List Int)) × Unit)) × Unit) × Unit) → Option (Int × Unit) := fun (s_1, f_2, _) =>
  (loop (σ := (Int × Unit)) (ρ := (Unit ⊕ (Int × Unit))) (fun (s_3, _) =>
  (bif (decide (s_3 < (((s_1).length : Nat) : Int))) then (
  (getI s_1 s_3).bind fun y4 =>
  (d_graph_Permuted_1q_q0 (y4, f_2.1, ())).bind fun (r5, _) =>
  (bif r5 then (
  some (.inr (.inr (s_3, ())))) else (
  some (.inl ((IntKind.i64.wrap (s_3 + ((1) : Int))), ()))))) else (
  some (.inr (.inl ()))))) (((0) : Int), ())).bind fun q => match q with
  | .inl _ => (
  some ((-1 : Int), ()))
  | .inr r => some r
noncomputable def d_slices_ContainsFunc_int_int_q0 : ((List Int) × ((Option ((List (List Int)) × Unit)) × Unit) × Unit) → Option (Bool × Unit) := fun (s_1, f_2, _) =>
  (d_slices_IndexFunc_int_int_q0 (s_1, (f_2.1, ()), ())).bind fun (r3, _) =>
  some ((decide (r3 ≥ ((0) : Int))), ())
noncomputable def d_graph_Permuted : (((List (List Int)) × Unit) × (List Int) × Unit) → Option (Int × Unit) := fun (g_1, order_2, _) =>
  (d_graph_Check (g_1, ())).bind fun (r3, _) =>
  (bif (r3 != ((0) : Int)) then (
  some (r3, ())) else (
  (bif ((((order_2).length : Nat) : Int) != (((g_1.1).length : Nat) : Int)) then (
  some (((2) : Int), ())) else (
  (d_slices_ContainsFunc_int_int_q0 (order_2, ((some g_1), ()), ())).bind fun (r4, _) =>
  (bif (r4 == false) then ((d_graph_twice (order_2, ())).bind fun (r5, _) =>
  (bif r5 then (
  some (((90) : Int), ())) else (
  some (((0) : Int), ())))) else (some (((90) : Int), ())))))))
noncomputable def d_graph_NewSets : (Int × Unit) → Option ((List (List Bool)) × Unit) := fun (n_1, _) =>
  (madeO n_1 n_1).bind fun n2 =>
  (loop (σ := (Int × (List (List Bool)) × Unit)) (ρ := ((List (List Bool)) × Unit)) (fun (s_3, s_4, _) =>
  (bif (decide (s_3 < (((((List.replicate n2 []) : (List (List Bool)))).length : Nat) : Int))) then (
  (madeO n_1 n_1).bind fun n5 =>
  (idxN (s_4).length s_3).bind fun k6 =>
  ((atO s_4 k6 fun _ => some ((s_4).set k6 (List.replicate n5 false)))).bind fun z8 =>
  some (.inl ((IntKind.i64.wrap (s_3 + ((1) : Int))), z8, ()))) else (
  some (.inr (s_4, ()))))) (((0) : Int), (List.replicate n2 []), ())).bind fun (s_9, _) =>
  some (s_9, ())
noncomputable def d_graph_Sets_Join : ((List (List Bool)) × Int × Int × Unit) → Option ((List (List Bool)) × Unit) := fun (s_1, v_2, w_3, _) =>
  (bif (v_2 != w_3) then (
  (idxN (s_1).length v_2).bind fun k4 =>
  (idxN (s_1).length w_3).bind fun k6 =>
  (((atO s_1 k4 fun e8 => some e8)).bind fun e9 => idxN (e9).length w_3).bind fun k10 =>
  ((atO s_1 k4 fun e11 => ((atO e11 k10 fun _ => some ((e11).set k10 true))).map fun z13 => (s_1).set k4 z13)).bind fun z14 =>
  (((atO z14 k6 fun e15 => some e15)).bind fun e16 => idxN (e16).length v_2).bind fun k17 =>
  ((atO z14 k6 fun e18 => ((atO e18 k17 fun _ => some ((e18).set k17 true))).map fun z20 => (z14).set k6 z20)).bind fun z21 =>
  some (z21, ())) else (
  some (s_1, ())))
noncomputable def d_graph_Sets_List : ((List (List Bool)) × Int × Unit) → Option ((List Int) × Unit) := fun (s_1, v_2, _) =>
  (getI s_1 v_2).bind fun y4 =>
  (loop (σ := (Int × (List Int) × Unit)) (ρ := ((List Int) × Unit)) (fun (s_5, out_6, _) =>
  (bif (decide (s_5 < (((y4).length : Nat) : Int))) then (
  Option.bind (α := ((List Int) × Unit)) (
  (getI y4 s_5).bind fun y7 =>
  (bif y7 then (
  (limO ((out_6).length + ([s_5]).length)).bind fun _ =>
  some ((out_6 ++ [s_5]), ())) else (
  some (out_6, ())))) fun (out_8, _) =>
  some (.inl ((IntKind.i64.wrap (s_5 + ((1) : Int))), out_8, ()))) else (
  some (.inr (out_6, ()))))) (((0) : Int), [], ())).bind fun (out_9, _) =>
  some (out_9, ())
noncomputable def d_sparsekit_Shuffle : ((List Int) × Int × Unit) → Option ((List Int) × Unit) := fun (l_1, n_2, _) =>
  (loop (σ := (Int × (List Int) × Unit)) (ρ := ((List Int) × Unit)) (fun (i_6, left_7, _) =>
  (bif (decide (i_6 < n_2)) then (
  (limO ((left_7).length + ([i_6]).length)).bind fun _ =>
  some (.inl ((IntKind.i64.wrap (i_6 + ((1) : Int))), (left_7 ++ [i_6]), ()))) else (
  some (.inr (left_7, ()))))) (((0) : Int), [], ())).bind fun (left_8, _) =>
  (loop (σ := (Int × (List Int) × (List Int) × Unit)) (ρ := ((List Int) × Unit)) (fun (k_9, left_10, out_11, _) =>
  (bif (decide (k_9 < n_2)) then (
  Option.bind (α := ((List Int) × (List Int) × Unit)) (
  Option.bind (α := (Int × (List Int) × (List Int) × Unit)) (
  (bif (decide (k_9 < (((l_1).length : Nat) : Int))) then (
  (getI l_1 k_9).bind fun y12 =>
  (d_sparsekit_Place (y12, (((left_10).length : Nat) : Int), ())).bind fun (r13, _) =>
  some (r13, left_10, out_11, ())) else (
  some (((0) : Int), left_10, out_11, ())))) fun (at_14, left_15, out_16, _) =>
  (idxN (left_15).length at_14).bind fun k17 =>
  ((atO left_15 k17 fun e18 => some e18)).bind fun y19 =>
  (limO ((out_16).length + ([y19]).length)).bind fun _ =>
  ((some (0)).bind fun l20 => (natO at_14).bind fun l21 => (leO l20 l21 (left_15).length).bind fun _ => (posO (left_15).length).map fun _ => (l20, l21)).bind fun q22 =>
  ((natO (IntKind.i64.wrap (at_14 + ((1) : Int)))).bind fun l23 => (some ((left_15).length)).bind fun l24 => (leO l23 l24 (left_15).length).bind fun _ => (posO (left_15).length).map fun _ => (l23, l24)).bind fun q25 =>
  (limO (((((left_15).take q22.2).drop q22.1)).length + ((((left_15).take q25.2).drop q25.1)).length)).bind fun _ =>
  some (((((left_15).take q22.2).drop q22.1) ++ (((left_15).take q25.2).drop q25.1)), (out_16 ++ [y19]), ())) fun (left_26, out_27, _) =>
  some (.inl ((IntKind.i64.wrap (k_9 + ((1) : Int))), left_26, out_27, ()))) else (
  some (.inr (out_11, ()))))) (((0) : Int), left_8, [], ())).bind fun (out_28, _) =>
  some (out_28, ())
noncomputable def d_graph_Table : (((List (List Int)) × Unit) × Unit) → Option ((List (List Bool)) × Unit) := fun (g_1, _) =>
  (d_graph_NewSets ((((g_1.1).length : Nat) : Int), ())).bind fun (r2, _) =>
  (loop (σ := (Int × (List (List Bool)) × Unit)) (ρ := ((List (List Bool)) × Unit)) (fun (s_3, s_4, _) =>
  (bif (decide (s_3 < (((g_1.1).length : Nat) : Int))) then (
  (getI g_1.1 s_3).bind fun y5 =>
  (loop (σ := (Int × (List (List Bool)) × Unit)) (ρ := ((List (List Bool)) × Unit)) (fun (s_6, s_7, _) =>
  (bif (decide (s_6 < (((y5).length : Nat) : Int))) then (
  (getI y5 s_6).bind fun y8 =>
  (d_graph_Sets_Join (s_7, s_3, y8, ())).bind fun (m9, _) =>
  some (.inl ((IntKind.i64.wrap (s_6 + ((1) : Int))), m9, ()))) else (
  some (.inr (s_7, ()))))) (((0) : Int), s_4, ())).bind fun (s_10, _) =>
  some (.inl ((IntKind.i64.wrap (s_3 + ((1) : Int))), s_10, ()))) else (
  some (.inr (s_4, ()))))) (((0) : Int), r2, ())).bind fun (s_11, _) =>
  some (s_11, ())
noncomputable def d_mindeg_Start : (((List (List Int)) × Unit) × Unit) → Option (((List (List Bool)) × ((List Bool) × Unit)) × Unit) := fun (g_1, _) =>
  (d_graph_Table (g_1, ())).bind fun (r2, _) =>
  (madeO (((g_1.1).length : Nat) : Int) (((g_1.1).length : Nat) : Int)).bind fun n3 =>
  some ((r2, ((List.replicate n3 false), ())), ())
noncomputable def d_mindeg_Elimination_Eliminate : (((List (List Bool)) × ((List Bool) × Unit)) × Int × Unit) → Option (((List (List Bool)) × ((List Bool) × Unit)) × (List Int) × Unit) := fun (x_1, v_2, _) =>
  (d_graph_Sets_List (x_1.1, v_2, ())).bind fun (r3, _) =>
  (loop (σ := (Int × ((List (List Bool)) × ((List Bool) × Unit)) × Unit)) (ρ := (((List (List Bool)) × ((List Bool) × Unit)) × Unit)) (fun (s_4, x_5, _) =>
  (bif (decide (s_4 < (((r3).length : Nat) : Int))) then (
  (getI r3 s_4).bind fun y6 =>
  ((some (0)).bind fun l7 => (natO s_4).bind fun l8 => (leO l7 l8 (r3).length).map fun _ => (l7, l8)).bind fun q9 =>
  (loop (σ := (Int × ((List (List Bool)) × ((List Bool) × Unit)) × Unit)) (ρ := (((List (List Bool)) × ((List Bool) × Unit)) × Unit)) (fun (s_10, x_11, _) =>
  (bif (decide (s_10 < ((((((r3).take q9.2).drop q9.1)).length : Nat) : Int))) then (
  (getI (((r3).take q9.2).drop q9.1) s_10).bind fun y12 =>
  (d_graph_Sets_Join (x_11.1, y6, y12, ())).bind fun (m13, _) =>
  some (.inl ((IntKind.i64.wrap (s_10 + ((1) : Int))), (m13, x_11.2), ()))) else (
  some (.inr (x_11, ()))))) (((0) : Int), x_5, ())).bind fun (x_14, _) =>
  (idxN (x_14.1).length y6).bind fun k15 =>
  (idxN (x_14.1).length v_2).bind fun k17 =>
  (((atO x_14.1 k15 fun e19 => some e19)).bind fun e20 => idxN (e20).length v_2).bind fun k21 =>
  ((((atO x_14.1 k15 fun e22 => ((atO e22 k21 fun _ => some ((e22).set k21 false))).map fun z24 => (x_14.1).set k15 z24)).map fun z25 => (z25, x_14.2))).bind fun z26 =>
  (((atO z26.1 k17 fun e27 => some e27)).bind fun e28 => idxN (e28).length y6).bind fun k29 =>
  ((((atO z26.1 k17 fun e30 => ((atO e30 k29 fun _ => some ((e30).set k29 false))).map fun z32 => (z26.1).set k17 z32)).map fun z33 => (z33, z26.2))).bind fun z34 =>
  some (.inl ((IntKind.i64.wrap (s_4 + ((1) : Int))), z34, ()))) else (
  some (.inr (x_5, ()))))) (((0) : Int), x_1, ())).bind fun (x_35, _) =>
  (idxN (x_35.2.1).length v_2).bind fun k36 =>
  ((((((atO x_35.2.1 k36 fun _ => some ((x_35.2.1).set k36 true))).map fun z38 => (z38, x_35.2.2))).map fun z39 => (x_35.1, z39))).bind fun z40 =>
  some (z40, r3, ())
noncomputable def d_mindeg_Degrees : (((List (List Int)) × Unit) × (List Int) × Unit) → Option ((List Int) × Int × Unit) := fun (g_1, order_2, _) =>
  (d_graph_Permuted (g_1, order_2, ())).bind fun (r14, _) =>
  (bif (r14 != ((0) : Int)) then (
  some ([], r14, ())) else (
  (d_mindeg_Start (g_1, ())).bind fun (r15, _) =>
  (loop (σ := (Int × ((List (List Bool)) × ((List Bool) × Unit)) × (List Int) × Unit)) (ρ := ((List Int) × Unit)) (fun (s_16, x_17, out_18, _) =>
  (bif (decide (s_16 < (((order_2).length : Nat) : Int))) then (
  (getI order_2 s_16).bind fun y19 =>
  (d_mindeg_Elimination_Eliminate (x_17, y19, ())).bind fun (m20, r21, _) =>
  (limO ((out_18).length + ([(((r21).length : Nat) : Int)]).length)).bind fun _ =>
  some (.inl ((IntKind.i64.wrap (s_16 + ((1) : Int))), m20, (out_18 ++ [(((r21).length : Nat) : Int)]), ()))) else (
  some (.inr (out_18, ()))))) (((0) : Int), r15, [], ())).bind fun (out_22, _) =>
  some (out_22, ((0) : Int), ())))
end Go.Fw
end

section
namespace Go.Fw
noncomputable def d_graph_levels : (((List (List Int)) × Unit) × Int × Unit) → Option ((List (List Int)) × Unit) := fun (g_1, root_2, _) =>
  (madeO (((g_1.1).length : Nat) : Int) (((g_1.1).length : Nat) : Int)).bind fun n48 =>
  (idxN ((List.replicate n48 false)).length root_2).bind fun k49 =>
  ((atO (List.replicate n48 false) k49 fun _ => some (((List.replicate n48 false)).set k49 true))).bind fun z51 =>
  (loop (σ := ((List Int) × (List Bool) × (List (List Int)) × Unit)) (ρ := ((List (List Int)) × Unit)) (fun (now_52, seen_53, out_54, _) =>
  (bif (decide ((((now_52).length : Nat) : Int) > ((0) : Int))) then (
  (limO ((out_54).length + ([now_52]).length)).bind fun _ =>
  (loop (σ := (Int × (List Bool) × (List (List Int)) × (List Int) × Unit)) (ρ := ((List Bool) × (List (List Int)) × (List Int) × Unit)) (fun (s_55, seen_56, out_57, next_58, _) =>
  (bif (decide (s_55 < (((now_52).length : Nat) : Int))) then (
  (getI now_52 s_55).bind fun y59 =>
  (getI g_1.1 y59).bind fun y60 =>
  (loop (σ := (Int × (List Bool) × (List (List Int)) × (List Int) × Unit)) (ρ := ((List Bool) × (List (List Int)) × (List Int) × Unit)) (fun (s_61, seen_62, out_63, next_64, _) =>
  (bif (decide (s_61 < (((y60).length : Nat) : Int))) then (
  Option.bind (α := ((List Bool) × (List (List Int)) × (List Int) × Unit)) (
  (getI y60 s_61).bind fun y65 =>
  (idxN (seen_62).length y65).bind fun k66 =>
  ((atO seen_62 k66 fun e67 => some e67)).bind fun y68 =>
  (bif (!y68) then (
  (idxN (seen_62).length y65).bind fun k69 =>
  ((atO seen_62 k69 fun _ => some ((seen_62).set k69 true))).bind fun z71 =>
  (limO ((next_64).length + ([y65]).length)).bind fun _ =>
  some (z71, out_63, (next_64 ++ [y65]), ())) else (
  some (seen_62, out_63, next_64, ())))) fun (seen_72, out_73, next_74, _) =>
  some (.inl ((IntKind.i64.wrap (s_61 + ((1) : Int))), seen_72, out_73, next_74, ()))) else (
  some (.inr (seen_62, out_63, next_64, ()))))) (((0) : Int), seen_56, out_57, next_58, ())).bind fun (seen_75, out_76, next_77, _) =>
  some (.inl ((IntKind.i64.wrap (s_55 + ((1) : Int))), seen_75, out_76, next_77, ()))) else (
  some (.inr (seen_56, out_57, next_58, ()))))) (((0) : Int), seen_53, (out_54 ++ [now_52]), [], ())).bind fun (seen_78, out_79, next_80, _) =>
  (d_slices_Sort_int_int (next_80, ())).bind fun (m81, _) =>
  some (.inl (m81, seen_78, out_79, ()))) else (
  some (.inr (out_54, ()))))) ([root_2], z51, [], ())).bind fun (out_82, _) =>
  some (out_82, ())
noncomputable def d_slices_Grow_int_int : Unit × Int × Unit → Option (List Int × Unit) := fun a => (grSem a.2.1).map fun r => (r, ())
noncomputable def d_slices_Concat_int_int : ((List (List Int)) × Unit) → Option ((List Int) × Unit) := fun (slices_1, _) =>
  (loop (σ := (Int × Int × Unit)) (ρ := (Int × Unit)) (fun (size_2, s_3, _) =>
  (bif (decide (s_3 < (((slices_1).length : Nat) : Int))) then (
  Option.bind (α := (Int × Unit)) (
  (getI slices_1 s_3).bind fun y4 =>
  (bif (decide ((IntKind.i64.wrap (size_2 + (((y4).length : Nat) : Int))) < ((0) : Int))) then (
  none) else (
  some ((IntKind.i64.wrap (size_2 + (((y4).length : Nat) : Int))), ())))) fun (size_5, _) =>
  some (.inl (size_5, (IntKind.i64.wrap (s_3 + ((1) : Int))), ()))) else (
  some (.inr (size_2, ()))))) (((0) : Int), ((0) : Int), ())).bind fun (size_6, _) =>
  (d_slices_Grow_int_int ((), size_6, ())).bind fun (r7, _) =>
  (loop (σ := (Int × (List Int) × Unit)) (ρ := ((List Int) × Unit)) (fun (s_8, newslice_9, _) =>
  (bif (decide (s_8 < (((slices_1).length : Nat) : Int))) then (
  (getI slices_1 s_8).bind fun y10 =>
  (limO ((newslice_9).length + (y10).length)).bind fun _ =>
  some (.inl ((IntKind.i64.wrap (s_8 + ((1) : Int))), (newslice_9 ++ y10), ()))) else (
  some (.inr (newslice_9, ()))))) (((0) : Int), r7, ())).bind fun (newslice_11, _) =>
  some (newslice_11, ())
noncomputable def d_graph_Peripheral : (((List (List Int)) × Unit) × Int × Unit) → Option (Int × Unit) := fun (g_1, v_2, _) =>
  Option.bind (α := Unit ⊕ (Int × Unit)) (
  (d_graph_Check (g_1, ())).bind fun (r3, _) =>
  (bif ((r3 != ((0) : Int)) == false) then ((d_graph_vertex (g_1, v_2, ())).bind fun (r4, _) =>
  (bif (!r4) then (
  some (.inr ((-1 : Int), ()))) else (
  some (.inl ())))) else (some (.inr ((-1 : Int), ()))))) fun q => match q with
  | .inl _ => (
  (d_graph_levels (g_1, v_2, ())).bind fun (r5, _) =>
  (loop (σ := (Int × (List (List Int)) × Unit)) (ρ := (Int × Unit)) (fun (v_6, now_7, _) =>
  (getI now_7 (IntKind.i64.wrap ((((now_7).length : Nat) : Int) - ((1) : Int)))).bind fun y8 =>
  (getI y8 ((0) : Int)).bind fun y9 =>
  (loop (σ := (Int × Int × Unit)) (ρ := (Int × Unit)) (fun (w_10, s_11, _) =>
  (bif (decide (s_11 < (((y8).length : Nat) : Int))) then (
  Option.bind (α := (Int × Unit)) (
  (getI y8 s_11).bind fun y12 =>
  (getI g_1.1 y12).bind fun y13 =>
  (getI g_1.1 w_10).bind fun y14 =>
  (bif (decide ((((y13).length : Nat) : Int) < (((y14).length : Nat) : Int))) then (
  some (y12, ())) else (
  some (w_10, ())))) fun (w_15, _) =>
  some (.inl (w_15, (IntKind.i64.wrap (s_11 + ((1) : Int))), ()))) else (
  some (.inr (w_10, ()))))) (y9, ((0) : Int), ())).bind fun (w_16, _) =>
  (d_graph_levels (g_1, w_16, ())).bind fun (r17, _) =>
  (bif (decide ((((r17).length : Nat) : Int) ≤ (((now_7).length : Nat) : Int))) then (
  some (.inr (v_6, ()))) else (
  some (.inl (w_16, r17, ()))))) (v_2, r5, ())).bind some)
  | .inr r => some r
noncomputable def d_rcm_positions : ((List Int) × Unit) → Option ((List Int) × Unit) := fun (order_1, _) =>
  (madeO (((order_1).length : Nat) : Int) (((order_1).length : Nat) : Int)).bind fun n2 =>
  (loop (σ := (Int × (List Int) × Unit)) (ρ := ((List Int) × Unit)) (fun (s_3, out_4, _) =>
  (bif (decide (s_3 < (((order_1).length : Nat) : Int))) then (
  (getI order_1 s_3).bind fun y5 =>
  (idxN (out_4).length y5).bind fun k6 =>
  ((atO out_4 k6 fun _ => some ((out_4).set k6 s_3))).bind fun z8 =>
  some (.inl ((IntKind.i64.wrap (s_3 + ((1) : Int))), z8, ()))) else (
  some (.inr (out_4, ()))))) (((0) : Int), (List.replicate n2 (0 : Int)), ())).bind fun (out_9, _) =>
  some (out_9, ())
noncomputable def d_rcm_Bandwidth : (((List (List Int)) × Unit) × (List Int) × Unit) → Option (Int × Int × Unit) := fun (g_1, order_2, _) =>
  (d_graph_Permuted (g_1, order_2, ())).bind fun (r3, _) =>
  (bif (r3 != ((0) : Int)) then (
  some (((0) : Int), r3, ())) else (
  (d_rcm_positions (order_2, ())).bind fun (r4, _) =>
  (loop (σ := (Int × Int × Unit)) (ρ := (Int × Unit)) (fun (width_5, s_6, _) =>
  (bif (decide (s_6 < (((g_1.1).length : Nat) : Int))) then (
  (getI g_1.1 s_6).bind fun y7 =>
  (loop (σ := (Int × Int × Unit)) (ρ := (Int × Unit)) (fun (width_8, s_9, _) =>
  (bif (decide (s_9 < (((y7).length : Nat) : Int))) then (
  (getI y7 s_9).bind fun y10 =>
  (getI r4 s_6).bind fun y11 =>
  (getI r4 y10).bind fun y12 =>
  some (.inl ((if (IntKind.i64.wrap (y11 - y12)) > width_8 then (IntKind.i64.wrap (y11 - y12)) else width_8), (IntKind.i64.wrap (s_9 + ((1) : Int))), ()))) else (
  some (.inr (width_8, ()))))) (width_5, ((0) : Int), ())).bind fun (width_13, _) =>
  some (.inl (width_13, (IntKind.i64.wrap (s_6 + ((1) : Int))), ()))) else (
  some (.inr (width_5, ()))))) (((0) : Int), ((0) : Int), ())).bind fun (width_14, _) =>
  some (width_14, ((0) : Int), ())))
noncomputable def d_sparseref16q_Degrees : (((List (List Int)) × Unit) × (List Int) × Unit) → Option ((List Int) × Int × Unit) := fun (g_1, order_2, _) =>
  (d_sparseref12q_Check (g_1, ())).bind fun (r17, _) =>
  (bif (r17 != ((0) : Int)) then (
  some ([], r17, ())) else (
  (bif ((((order_2).length : Nat) : Int) != (((g_1.1).length : Nat) : Int)) then (
  some ([], ((2) : Int), ())) else (
  (d_sparsekit_Perm (order_2, (((g_1.1).length : Nat) : Int), ())).bind fun (r18, _) =>
  (bif (!r18) then (
  some ([], ((90) : Int), ())) else (
  (d_sparseref16q_Begin (g_1, ())).bind fun (r19, _) =>
  (loop (σ := (Int × ((List (List Bool)) × ((List Bool) × Unit)) × (List Int) × Unit)) (ρ := ((List Int) × Unit)) (fun (k_20, x_21, out_22, _) =>
  (bif (decide (k_20 < (((order_2).length : Nat) : Int))) then (
  (getI order_2 k_20).bind fun y23 =>
  (d_sparseref16q_Elimination_Neighbours ((some x_21), y23, ())).bind fun (r24, _) =>
  (limO ((out_22).length + ([(((r24).length : Nat) : Int)]).length)).bind fun _ =>
  (getI order_2 k_20).bind fun y25 =>
  (d_sparseref16q_Elimination_Eliminate (x_21, y25, ())).bind fun (m26, _) =>
  some (.inl ((IntKind.i64.wrap (k_20 + ((1) : Int))), m26, (out_22 ++ [(((r24).length : Nat) : Int)]), ()))) else (
  some (.inr (out_22, ()))))) (((0) : Int), r19, [], ())).bind fun (out_27, _) =>
  some (out_27, ((0) : Int), ())))))))
end Go.Fw
end

section
namespace Go.Fw
noncomputable def d_mindeg_Exact : (((List (List Int)) × Unit) × Unit) → Option ((List Int) × Int × Unit) := fun (g_1, _) =>
  (d_graph_Check (g_1, ())).bind fun (r31, _) =>
  (bif (r31 != ((0) : Int)) then (
  some ([], r31, ())) else (
  (d_mindeg_Start (g_1, ())).bind fun (r32, _) =>
  (loop (σ := (Int × ((List (List Bool)) × ((List Bool) × Unit)) × (List Int) × Unit)) (ρ := ((List Int) × Unit)) (fun (s_33, x_34, out_35, _) =>
  (bif (decide (s_33 < (((g_1.1).length : Nat) : Int))) then (
  (loop (σ := (Int × Int × Int × ((List (List Bool)) × ((List Bool) × Unit)) × (List Int) × Unit)) (ρ := (Int × ((List (List Bool)) × ((List Bool) × Unit)) × (List Int) × Unit)) (fun (best_36, least_37, s_38, x_39, out_40, _) =>
  (bif (decide (s_38 < (((g_1.1).length : Nat) : Int))) then (
  Option.bind (α := (Int × Int × ((List (List Bool)) × ((List Bool) × Unit)) × (List Int) × Unit)) (
  (d_graph_Sets_List (x_39.1, s_38, ())).bind fun (r41, _) =>
  Option.bind (α := (Bool × ((List (List Bool)) × ((List Bool) × Unit)) × (List Int) × Unit)) (
  (idxN (x_39.2.1).length s_38).bind fun k42 =>
  ((atO x_39.2.1 k42 fun e43 => some e43)).bind fun y44 =>
  (bif ((!y44) == true) then ((bif ((decide (best_36 < ((0) : Int))) == false) then (some ((decide ((((r41).length : Nat) : Int) < least_37)), x_39, out_40, ())) else (some (true, x_39, out_40, ())))) else (some (false, x_39, out_40, ())))) fun (s_45, x_46, out_47, _) =>
  (bif s_45 then (
  some (s_38, (((r41).length : Nat) : Int), x_46, out_47, ())) else (
  some (best_36, least_37, x_46, out_47, ())))) fun (best_48, least_49, x_50, out_51, _) =>
  some (.inl (best_48, least_49, (IntKind.i64.wrap (s_38 + ((1) : Int))), x_50, out_51, ()))) else (
  some (.inr (best_36, x_39, out_40, ()))))) ((-1 : Int), ((0) : Int), ((0) : Int), x_34, out_35, ())).bind fun (best_52, x_53, out_54, _) =>
  (d_mindeg_Elimination_Eliminate (x_53, best_52, ())).bind fun (m55, _, _) =>
  (limO ((out_54).length + ([best_52]).length)).bind fun _ =>
  some (.inl ((IntKind.i64.wrap (s_33 + ((1) : Int))), m55, (out_54 ++ [best_52]), ()))) else (
  some (.inr (out_35, ()))))) (((0) : Int), r32, [], ())).bind fun (out_57, _) =>
  some (out_57, ((0) : Int), ())))
noncomputable def d_sparselaw16q_awake : Unit → Option (Bool × Unit) := fun _ =>
  (d_mindeg_Exact (([[((1) : Int), ((2) : Int), ((3) : Int)], [((0) : Int)], [((0) : Int)], [((0) : Int)]], ()), ())).bind fun (r1, r2, _) =>
  (d_mindeg_Degrees (([[((1) : Int), ((2) : Int), ((3) : Int)], [((0) : Int)], [((0) : Int)], [((0) : Int)]], ()), [((0) : Int), ((1) : Int), ((2) : Int), ((3) : Int)], ())).bind fun (r3, r4, _) =>
  (bif ((r2 == ((0) : Int)) == true) then ((bif ((r4 == ((0) : Int)) == true) then ((d_sparsekit_Ints (r1, [((1) : Int), ((2) : Int), ((0) : Int), ((3) : Int)], ())).bind fun (r5, _) =>
  (bif (r5 == true) then ((d_sparsekit_Ints (r3, [((3) : Int), ((2) : Int), ((1) : Int), ((0) : Int)], ())).bind fun (r6, _) =>
  some (r6, ())) else (some (false, ())))) else (some (false, ())))) else (some (false, ())))
noncomputable def d_sparseref16q_Exact : (((List (List Int)) × Unit) × Unit) → Option ((List Int) × Int × Unit) := fun (g_1, _) =>
  (d_sparseref12q_Check (g_1, ())).bind fun (r29, _) =>
  (bif (r29 != ((0) : Int)) then (
  some ([], r29, ())) else (
  (d_sparseref16q_Begin (g_1, ())).bind fun (r30, _) =>
  (loop (σ := (((List (List Bool)) × ((List Bool) × Unit)) × (List Int) × Unit)) (ρ := ((List Int) × Unit)) (fun (x_31, out_32, _) =>
  (bif (decide ((((out_32).length : Nat) : Int) < (((g_1.1).length : Nat) : Int))) then (
  (loop (σ := (Int × Int × Int × ((List (List Bool)) × ((List Bool) × Unit)) × (List Int) × Unit)) (ρ := (Int × ((List (List Bool)) × ((List Bool) × Unit)) × (List Int) × Unit)) (fun (best_33, least_34, v_35, x_36, out_37, _) =>
  (bif (decide (v_35 < (((g_1.1).length : Nat) : Int))) then (
  Option.bind (α := (Int × Int × ((List (List Bool)) × ((List Bool) × Unit)) × (List Int) × Unit)) (
  (d_sparseref16q_Elimination_Neighbours ((some x_36), v_35, ())).bind fun (r38, _) =>
  Option.bind (α := (Bool × ((List (List Bool)) × ((List Bool) × Unit)) × (List Int) × Unit)) (
  (idxN (x_36.2.1).length v_35).bind fun k39 =>
  ((atO x_36.2.1 k39 fun e40 => some e40)).bind fun y41 =>
  (bif ((!y41) == true) then ((bif ((decide (best_33 < ((0) : Int))) == false) then (some ((decide ((((r38).length : Nat) : Int) < least_34)), x_36, out_37, ())) else (some (true, x_36, out_37, ())))) else (some (false, x_36, out_37, ())))) fun (s_42, x_43, out_44, _) =>
  (bif s_42 then (
  some (v_35, (((r38).length : Nat) : Int), x_43, out_44, ())) else (
  some (best_33, least_34, x_43, out_44, ())))) fun (best_45, least_46, x_47, out_48, _) =>
  some (.inl (best_45, least_46, (IntKind.i64.wrap (v_35 + ((1) : Int))), x_47, out_48, ()))) else (
  some (.inr (best_33, x_36, out_37, ()))))) ((-1 : Int), ((0) : Int), ((0) : Int), x_31, out_32, ())).bind fun (best_49, x_50, out_51, _) =>
  (d_sparseref16q_Elimination_Eliminate (x_50, best_49, ())).bind fun (m52, _) =>
  (limO ((out_51).length + ([best_49]).length)).bind fun _ =>
  some (.inl (m52, (out_51 ++ [best_49]), ()))) else (
  some (.inr (out_32, ()))))) (r30, [], ())).bind fun (out_53, _) =>
  some (out_53, ((0) : Int), ())))
noncomputable def d_sparselaw16q_MindegExact : (Int × (List Int) × (List Int) × Unit) → Option (Bool × Unit) := fun (n_1, l_2, order_3, _) =>
  (bif (decide ((((l_2).length : Nat) : Int) > ((80) : Int))) then (
  (d_sparselaw16q_awake ()).bind fun (r4, _) =>
  some (r4, ())) else (
  (d_sparsekit_Place (n_1, ((13) : Int), ())).bind fun (r5, _) =>
  (d_sparsemake_Graph (r5, l_2, ())).bind fun (r6, _) =>
  (d_sparsekit_Shuffle (order_3, r5, ())).bind fun (r7, _) =>
  (d_mindeg_Exact (r6, ())).bind fun (r8, r9, _) =>
  (d_sparseref16q_Exact (r6, ())).bind fun (r10, _, _) =>
  (d_mindeg_Degrees (r6, r7, ())).bind fun (r12, r13, _) =>
  (d_sparseref16q_Degrees (r6, r7, ())).bind fun (r14, _, _) =>
  (bif ((r9 == ((0) : Int)) == true) then ((bif ((r13 == ((0) : Int)) == true) then ((d_sparsekit_Ints (r8, r10, ())).bind fun (r16, _) =>
  (bif (r16 == true) then ((d_sparsekit_Ints (r12, r14, ())).bind fun (r17, _) =>
  (bif (r17 == true) then ((d_sparselaw16q_awake ()).bind fun (r18, _) =>
  some (r18, ())) else (some (false, ())))) else (some (false, ())))) else (some (false, ())))) else (some (false, ())))))
noncomputable def d_sparselaw16q_MindegLeast : (Int × (List Int) × Unit) → Option (Bool × Unit) := fun (n_1, l_2, _) =>
  (bif (decide ((((l_2).length : Nat) : Int) > ((80) : Int))) then (
  (d_sparselaw16q_awake ()).bind fun (r3, _) =>
  some (r3, ())) else (
  (d_sparsekit_Place (n_1, ((11) : Int), ())).bind fun (r4, _) =>
  (d_sparsemake_Graph (r4, l_2, ())).bind fun (r5, _) =>
  (d_mindeg_Exact (r5, ())).bind fun (r6, r7, _) =>
  Option.bind (α := (((List (List Int)) × Unit) × Unit) ⊕ (Bool × Unit)) (
  (bif ((r7 != ((0) : Int)) == false) then ((d_sparsekit_Perm (r6, r4, ())).bind fun (r8, _) =>
  (bif (!r8) then (
  some (.inr (false, ()))) else (
  some (.inl (r5, ()))))) else (some (.inr (false, ()))))) fun q => match q with
  | .inl (g_9, _) => (
  (d_sparseref16q_Begin (g_9, ())).bind fun (r10, _) =>
  (loop (σ := (Int × ((List (List Bool)) × ((List Bool) × Unit)) × Unit)) (ρ := (Unit ⊕ (Bool × Unit))) (fun (k_11, x_12, _) =>
  (bif (decide (k_11 < r4)) then (
  (getI r6 k_11).bind fun y13 =>
  (d_sparseref16q_Elimination_Neighbours ((some x_12), y13, ())).bind fun (r14, _) =>
  (loop (σ := (Int × ((List (List Bool)) × ((List Bool) × Unit)) × Unit)) (ρ := ((((List (List Bool)) × ((List Bool) × Unit)) × Unit) ⊕ ((Int × ((List (List Bool)) × ((List Bool) × Unit)) × Unit) ⊕ (Unit ⊕ (Bool × Unit))))) (fun (v_15, x_16, _) =>
  (bif (decide (v_15 < r4)) then (
  Option.bind (α := (((List (List Bool)) × ((List Bool) × Unit)) × Unit) ⊕ ((Int × ((List (List Bool)) × ((List Bool) × Unit)) × Unit) ⊕ ((((List (List Bool)) × ((List Bool) × Unit)) × Unit) ⊕ ((Int × ((List (List Bool)) × ((List Bool) × Unit)) × Unit) ⊕ (Unit ⊕ (Bool × Unit)))))) (
  (idxN (x_16.2.1).length v_15).bind fun k17 =>
  ((atO x_16.2.1 k17 fun e18 => some e18)).bind fun y19 =>
  (bif y19 then (
  some (.inl (x_16, ()))) else (
  (d_sparseref16q_Elimination_Neighbours ((some x_16), v_15, ())).bind fun (r20, _) =>
  (bif ((decide ((((r20).length : Nat) : Int) < (((r14).length : Nat) : Int))) == false) then ((bif (((((r20).length : Nat) : Int) == (((r14).length : Nat) : Int)) == true) then ((getI r6 k_11).bind fun y21 =>
  (bif (decide (v_15 < y21)) then (
  some (.inr (.inr (.inr (.inr (.inr (false, ()))))))) else (
  some (.inl (x_16, ()))))) else (some (.inl (x_16, ()))))) else (some (.inr (.inr (.inr (.inr (.inr (false, ()))))))))))) fun q => match q with
  | .inl (x_22, _) => (
  some (.inl ((IntKind.i64.wrap (v_15 + ((1) : Int))), x_22, ())))
  | .inr r => some r) else (
  some (.inr (.inl (x_16, ())))))) (((0) : Int), x_12, ())).bind fun q => match q with
  | .inl (x_23, _) => (
  (getI r6 k_11).bind fun y24 =>
  (d_sparseref16q_Elimination_Eliminate (x_23, y24, ())).bind fun (m25, _) =>
  some (.inl ((IntKind.i64.wrap (k_11 + ((1) : Int))), m25, ())))
  | .inr r => some r) else (
  some (.inr (.inl ()))))) (((0) : Int), r10, ())).bind fun q => match q with
  | .inl _ => (
  (d_sparselaw16q_awake ()).bind fun (r26, _) =>
  some (r26, ()))
  | .inr r => some r)
  | .inr r => some r))
noncomputable def d_sparselaw16q_MindegComponents : (Int × (List Int) × (List Int) × Unit) → Option (Bool × Unit) := fun (n_1, l_2, order_3, _) =>
  (bif (decide ((((l_2).length : Nat) : Int) > ((80) : Int))) then (
  (d_sparselaw16q_awake ()).bind fun (r4, _) =>
  some (r4, ())) else (
  (d_sparsekit_Place (n_1, ((13) : Int), ())).bind fun (r5, _) =>
  (d_sparsemake_Graph (r5, l_2, ())).bind fun (r6, _) =>
  (d_sparsekit_Shuffle (order_3, r5, ())).bind fun (r7, _) =>
  (d_mindeg_Degrees (r6, r7, ())).bind fun (r8, r9, _) =>
  Option.bind (α := (((List (List Int)) × Unit) × Unit) ⊕ (Bool × Unit)) (
  (bif ((r9 != ((0) : Int)) == false) then ((bif ((((r8).length : Nat) : Int) != r5) then (
  some (.inr (false, ()))) else (
  some (.inl (r6, ()))))) else (some (.inr (false, ()))))) fun q => match q with
  | .inl (g_10, _) => (
  (loop (σ := (Int × Int × Int × ((List (List Int)) × Unit) × Unit)) (ρ := (Int × Int × ((List (List Int)) × Unit) × Unit)) (fun (edges_11, sum_12, v_13, g_14, _) =>
  (bif (decide (v_13 < r5)) then (
  (getI g_14.1 v_13).bind fun y15 =>
  (getI r8 v_13).bind fun y16 =>
  some (.inl ((IntKind.i64.wrap (edges_11 + (((y15).length : Nat) : Int))), (IntKind.i64.wrap (sum_12 + y16)), (IntKind.i64.wrap (v_13 + ((1) : Int))), g_14, ()))) else (
  some (.inr (edges_11, sum_12, g_14, ()))))) (((0) : Int), ((0) : Int), ((0) : Int), g_10, ())).bind fun (edges_17, sum_18, g_19, _) =>
  (d_sparseref16q_Begin (g_19, ())).bind fun (r20, _) =>
  (loop (σ := (Bool × Int × ((List (List Int)) × Unit) × ((List (List Bool)) × ((List Bool) × Unit)) × Unit)) (ρ := (Bool × Unit)) (fun (perfect_21, k_22, g_23, x_24, _) =>
  (bif (decide (k_22 < r5)) then (
  (getI r7 k_22).bind fun y25 =>
  (d_sparseref16q_Elimination_Neighbours ((some x_24), y25, ())).bind fun (r26, _) =>
  (loop (σ := (Bool × Int × ((List (List Int)) × Unit) × ((List (List Bool)) × ((List Bool) × Unit)) × Unit)) (ρ := (Bool × ((List (List Int)) × Unit) × ((List (List Bool)) × ((List Bool) × Unit)) × Unit)) (fun (perfect_27, i_28, g_29, x_30, _) =>
  (bif (decide (i_28 < (((r26).length : Nat) : Int))) then (
  (loop (σ := (Bool × Int × ((List (List Int)) × Unit) × ((List (List Bool)) × ((List Bool) × Unit)) × Unit)) (ρ := (Bool × ((List (List Int)) × Unit) × ((List (List Bool)) × ((List Bool) × Unit)) × Unit)) (fun (perfect_31, j_32, g_33, x_34, _) =>
  (bif (decide (j_32 < i_28)) then (
  Option.bind (α := (Bool × ((List (List Int)) × Unit) × ((List (List Bool)) × ((List Bool) × Unit)) × Unit)) (
  (bif (perfect_31 == true) then ((getI r26 i_28).bind fun y35 =>
  (getI g_33.1 y35).bind fun y36 =>
  (getI r26 j_32).bind fun y37 =>
  (d_sparsekit_In (y36, y37, ())).bind fun (r38, _) =>
  some (r38, g_33, x_34, ())) else (some (false, g_33, x_34, ())))) fun (perfect_39, g_40, x_41, _) =>
  some (.inl (perfect_39, (IntKind.i64.wrap (j_32 + ((1) : Int))), g_40, x_41, ()))) else (
  some (.inr (perfect_31, g_33, x_34, ()))))) (perfect_27, ((0) : Int), g_29, x_30, ())).bind fun (perfect_42, g_43, x_44, _) =>
  some (.inl (perfect_42, (IntKind.i64.wrap (i_28 + ((1) : Int))), g_43, x_44, ()))) else (
  some (.inr (perfect_27, g_29, x_30, ()))))) (perfect_21, ((0) : Int), g_23, x_24, ())).bind fun (perfect_45, g_46, x_47, _) =>
  (getI r7 k_22).bind fun y48 =>
  (d_sparseref16q_Elimination_Eliminate (x_47, y48, ())).bind fun (m49, _) =>
  some (.inl (perfect_45, (IntKind.i64.wrap (k_22 + ((1) : Int))), g_46, m49, ()))) else (
  some (.inr (perfect_21, ()))))) (true, ((0) : Int), g_19, r20, ())).bind fun (perfect_50, _) =>
  (bif ((decide ((IntKind.i64.wrap (((2) : Int) * sum_18)) ≥ edges_17)) == true) then ((bif ((((IntKind.i64.wrap (((2) : Int) * sum_18)) == edges_17) == perfect_50) == true) then ((d_sparselaw16q_awake ()).bind fun (r51, _) =>
  some (r51, ())) else (some (false, ())))) else (some (false, ()))))
  | .inr r => some r))
end Go.Fw
end

section
set_option linter.all false
namespace Go.Proofs
open Go.RowKit Go.Shelf Go.Sort
attribute [local go_sem] Oper.semAt_some
def Try.laysCompact_ren : Go.Shelf.Ren := ⟨fun | 20 => 62 | n => n, fun | 22 => 22 | 3 => 3 | 4 => 4 | 0 => 0 | n => n, fun | n => n⟩
theorem Try.laysCompact : Lays2.n20 Try.prog Try.laysCompact_ren where
  mixed := by kernel_rfl
  f20 := Try.func62.trans (congrArg some (by kernel_rfl))
  t0 := Try.underlying0
  a0 := Try.isAgg0
  z0 := Try.sizeOf0
  v0 := Try.zeroValue0
  t3 := Try.underlying3
  a3 := Try.isAgg3
  z3 := Try.sizeOf3
  v3 := Try.zeroValue3
  t4 := Try.underlying4
  a4 := Try.isAgg4
  z4 := Try.sizeOf4
  v4 := Try.zeroValue4
  t22 := Try.underlying22
  a22 := Try.isAgg22
  z22 := Try.sizeOf22
  v22 := Try.zeroValue22
  i3 := by kernel_rfl
namespace Tw
def upto {α : Type} (f : Nat → α) (k : Nat) : List α := (List.range k).map f
theorem upto_succ {α : Type} (f : Nat → α) (k : Nat) : upto f (k + 1) = upto f k ++ [f k] := by simp [upto, List.range_succ]
theorem upto_length {α : Type} (f : Nat → α) (k : Nat) : (upto f k).length = k := by simp [upto]
theorem upto_all (zs : List Int) : upto (fun j => zs[j]?.getD 0) zs.length = zs := by
  apply List.ext_getElem
  · simp [upto]
  · intro i h1 h2
    simp [upto, h2]
set_option maxRecDepth 100000 in
set_option maxHeartbeats 2000000 in
theorem valuesA_in (F : Fence) (n : Nat) (h7 : F.fn 71) (hro : F.round = none) (hn : 1 ≤ n) (l Bs n₀ b off len cap : Nat) (zs : List Int) (hreach : len * 8 ≤ 140737488351232) (hb : b < n₀) (J Jx : List Int → World → Prop)
    (hY : ∀ pre x W, J pre W → pre.length < len → YieldAt F (n - 1) Try.prog l #[.int .i64 x] W fun e W' =>
      (e = .returned (.bool true) ∧ J (pre ++ [x]) W' ∧ Below n₀ W W') ∨ (e = .returned (.bool false) ∧ Jx (pre ++ [x]) W'))
    (W : World) (hBs : W.cell? ⟨Bs, 0, none⟩ = some (.slice (some ⟨b, off, none⟩) len cap)) (hc : ∀ j, j < len → W.cell? ⟨b, off + j, none⟩ = some (.int .i64 (zs[j]?.getD 0))) (h0 : J [] W) :
    CallsIn F n Try.prog 71 #[.func (.yield l) #[] #[], .pointer (some ⟨Bs, 0, none⟩)] W fun e W' => (∃ v, e = .returned v) ∧
      ((∃ ys, ys = upto (fun j => zs[j]?.getD 0) len ∧ J ys W') ∨ (∃ pre, (∃ k, k ≤ len ∧ pre = upto (fun j => zs[j]?.getD 0) k) ∧ Jx pre W')) := by
  refine callsIn_of_wp Try.func71 rfl h7 ?_ hro
  simp only [Try.ntmps71, List.size_toArray, List.length_cons, List.length_nil, Nat.reduceAdd, Nat.reduceSub, Array.replicate_succ, Array.replicate_zero, List.push_toArray, List.append_toArray, List.nil_append, List.cons_append]
  gi_wp2
  gi_loopw [7] (fun i wr => ∃ k : Nat, k ≤ len ∧ i = .int .i64 k ∧ J (upto (fun j => zs[j]?.getD 0) k) wr ∧ Below n₀ W wr)
    (fun i _ => len - (intOf i).toNat)
  case atStart => exact ⟨0, Nat.zero_le _, rfl, h0, Below.refl _ _⟩
  case round =>
    obtain ⟨k, hk, rfl, hJs, hnx⟩ := hrel
    have hcx : k < len → wr.cell? ⟨b, off + k, none⟩ = some (.int .i64 (zs[k]?.getD 0)) := fun h => (hnx.cell (p := ⟨b, off + k, none⟩) hb).trans (hc k h)
    by_cases hlt : k < len
    · obtain ⟨fn, tmps, assign, body, hy, hR⟩ := hY _ (zs[k]?.getD 0) wr hJs (by rw [upto_length]; exact hlt)
      have hcx' := hcx hlt
      gi_wp2
      refine hR.mono ?_
      rintro e W3 (⟨rfl, hJ3, hk3⟩ | ⟨rfl, hJx3⟩)
      · gi_wp2
        go_roundw
        case rel => exact ⟨k + 1, by omega, by simp, by rw [upto_succ]; exact hJ3, hnx.trans hk3⟩
        case measure => simp [intOf]; omega
      · gi_wp2
        refine bodyPost_ret (results_none rfl _ _ _) rfl ?_
        exact ⟨⟨_, rfl⟩, .inr ⟨_, ⟨k + 1, by omega, (upto_succ _ _).symm⟩, hJx3⟩⟩
    · obtain rfl : k = len := by omega
      gi_wp2
      go_end0
      exact ⟨⟨_, rfl⟩, .inl ⟨_, rfl, hJs⟩⟩
theorem upto_take (zs : List Int) {k : Nat} (hk : k ≤ zs.length) : upto (fun j => zs[j]?.getD 0) k = zs.take k := by
  apply List.ext_getElem
  · simp [upto, hk]
  · intro i h1 h2
    have : i < zs.length := by simp [upto] at h1; omega
    simp [upto, this]
def Ints (n₀ : Nat) (W : World) (sv : Value) (zs : List Int) : Prop :=
  (∃ a cap, sv = .slice a 0 cap ∧ zs = []) ∨ ∃ b off cap, sv = .slice (some ⟨b, off, none⟩) zs.length cap ∧ b < n₀ ∧ ∀ j, j < zs.length → W.cell? ⟨b, off + j, none⟩ = some (.int .i64 (zs[j]?.getD 0))
theorem Ints.below {n₀ : Nat} {A B : World} (h : Below n₀ A B) {sv : Value} {zs : List Int} : Ints n₀ A sv zs → Ints n₀ B sv zs
  | .inl e => .inl e
  | .inr ⟨b, off, cap, e, hb, hc⟩ => .inr ⟨b, off, cap, e, hb, fun j hj => (h.cell (p := ⟨b, off + j, none⟩) hb).trans (hc j hj)⟩
set_option maxRecDepth 100000 in
set_option maxHeartbeats 1000000 in
theorem valuesA_nil_in (F : Fence) (n : Nat) (h7 : F.fn 71) (hro : F.round = none) (l Bs : Nat) (a : Option Addr) (cap : Nat) (J : List Int → World → Prop) (W : World) (hBs : W.cell? ⟨Bs, 0, none⟩ = some (.slice a 0 cap)) (h0 : J [] W) :
    CallsIn F n Try.prog 71 #[.func (.yield l) #[] #[], .pointer (some ⟨Bs, 0, none⟩)] W fun e W' => (∃ v, e = .returned v) ∧ J [] W' := by
  refine callsIn_of_wp Try.func71 rfl h7 ?_ hro
  simp only [Try.ntmps71, List.size_toArray, List.length_cons, List.length_nil, Nat.reduceAdd, Nat.reduceSub, Array.replicate_succ, Array.replicate_zero, List.push_toArray, List.append_toArray, List.nil_append, List.cons_append]
  gi_wp2
  gi_loopw [7] (fun i wr => i = .int .i64 0 ∧ J [] wr) (fun _ _ => 0)
  case atStart => exact ⟨rfl, h0⟩
  case round =>
    obtain ⟨rfl, hJs⟩ := hrel
    gi_wp2
    go_end0
    exact ⟨⟨_, rfl⟩, hJs⟩
set_option maxHeartbeats 1000000 in
theorem values_in (F : Fence) (n : Nat) (h5 : F.fn 64) (hro : F.round = none) (a : Option Addr) (len cap : Nat) (w : World) :
    CallsIn F n Try.prog 64 #[.slice a len cap] w fun e w' => e = .returned (.func (.func 71) #[] #[.pointer (some ⟨w.heap.size, 0, none⟩)]) ∧ w' = w.alloc (.cells #[.slice a len cap] 22) := by
  refine callsIn_of_wp Try.func64 rfl h5 ?_ hro
  simp only [Try.ntmps64, List.size_toArray, List.length_cons, List.length_nil, Nat.reduceAdd, Nat.reduceSub, Array.replicate_succ, Array.replicate_zero, List.push_toArray, List.append_toArray, List.nil_append, List.cons_append]
  gi_wp2
  go_ret
  exact ⟨rfl, rfl⟩
theorem values_stops (F : Fence) (n : Nat) (h7 : F.fn 71) (hro : F.round = none) (hn : 1 ≤ n) (Bs n₀ : Nat) (sv : Value) (zs : List Int) (hreach : zs.length * 8 ≤ 140737488351232) (w : World) (hBs : Bs < w.heap.size) (hn₀ : n₀ ≤ w.heap.size)
    (hc : w.cell? ⟨Bs, 0, none⟩ = some sv) (hI : Ints n₀ w sv zs) :
    SeqStopsK F n Try.prog 71 #[.pointer (some ⟨Bs, 0, none⟩)] (fun x : Int => #[Value.int .i64 x]) (Below n₀) (fun ys => ys = zs) (fun pre => pre <+: zs) zs.length w := fun l J Jx W hW _ _ hY h0 => by
  have hc' := (hW.cell (p := ⟨Bs, 0, none⟩) hBs).trans hc
  rcases hI.below (hW.mono hn₀) with ⟨a, cap, rfl, rfl⟩ | ⟨b, off, cap, rfl, hb, hcs⟩
  · exact (valuesA_nil_in F n h7 hro l Bs a cap J W hc' h0).mono fun e W' ⟨he, hj⟩ => ⟨he, .inl ⟨_, rfl, hj⟩⟩
  · refine (valuesA_in F n h7 hro hn l Bs n₀ b off zs.length cap zs hreach hb J Jx hY W hc' hcs h0).mono ?_
    rintro e W' ⟨he, ⟨ys, rfl, hj⟩ | ⟨pre, ⟨k, hk, rfl⟩, hj⟩⟩
    · exact ⟨he, .inl ⟨_, upto_all zs, hj⟩⟩
    · exact ⟨he, .inr ⟨_, by rw [upto_take zs hk]; exact List.take_prefix _ _, hj⟩⟩
theorem info3 : (Try.prog.info? 3).map (fun i => (i.zero, i.size, i.bytes)) = some (some (.int .i64 0), 1, 8) := by kernel_rfl
set_option maxRecDepth 100000 in
set_option maxHeartbeats 2000000 in
theorem appendSeq_in (F : Fence) (n : Nat) (h3 : F.fn 74) (h5 : F.fn 71) (hro : F.round = none) (hn : 3 ≤ n) (Bs : Nat) (sv : Value) (zs : List Int) (hreach : zs.length * 8 ≤ 140737488351232) (w : World) (hBs : Bs < w.heap.size)
    (hc : w.cell? ⟨Bs, 0, none⟩ = some sv) (hI : Ints w.heap.size w sv zs) :
    CallsIn F n Try.prog 74 #[.slice none 0 0, .func (.func 71) #[] #[.pointer (some ⟨Bs, 0, none⟩)]] w fun e W' => ∃ v, e = .returned v ∧ W'.ownsRow w.heap.size 3 1 v zs.length (zs.map (Value.int .i64)) ∧ (v = .slice none 0 0 ↔ zs = []) ∧ Below w.heap.size w W' := by
  have h1 : 1 ≤ n := by omega
  obtain ⟨i0, hi, hz0, hz1, hz2⟩ := info_parts info3
  refine callsIn_of_wp_marks Try.func74 rfl h3 ?_ hro
  simp only [Try.ntmps74, List.size_toArray, List.length_cons, List.length_nil, Nat.reduceAdd, Nat.reduceSub, Array.replicate_succ, Array.replicate_zero, List.push_toArray, List.append_toArray, List.nil_append, List.cons_append]
  gi_wp2
  have bO := Boxed.new w 22 (.slice none 0 0)
  have hB0 : Below w.heap.size w (w.alloc (.cells #[.slice none 0 0] 22)) := (Below.refl _ w).alloc (Nat.le_refl _) _
  refine wpIn_rangeFunc_ownG hro h1 (gf := 71) (lb := #[.pointer (some ⟨Bs, 0, none⟩)]) rfl h5 (enters_of Try.func71 (by kernel_rfl) rfl)
    (values_stops F (n - 1) h5 hro (by omega) Bs w.heap.size sv zs hreach _ (by simp; omega) (by simp) ((hB0.cell (p := ⟨Bs, 0, none⟩) hBs).trans hc) (hI.below hB0)) belowK_t (belowK_b (by simp)) (Below.refl _ _) (fun _ => rfl)
    (fun pre W => (∃ v, Boxed W w.heap.size 22 v ∧ W.ownsRow w.heap.size 3 1 v pre.length (pre.map (Value.int .i64)) ∧ (v = .slice none 0 0 ↔ pre = [])) ∧ Below w.heap.size w W)
    (fun _ _ _ => False)
    (OwnFrom.and (Own.from (holdsRow_own w.heap.size w.heap.size 22 3 1 (fun pre => pre.length) (fun pre => pre.map (Value.int .i64)) (fun pre v => v = .slice none 0 0 ↔ pre = [])) _) (ownFrom_below (Nat.le_refl _) (by simp)))
    (fun _ _ _ _ _ hs _ _ => hs)
    ⟨⟨_, bO, World.ownsRow_nil _ _ _ _, by simp⟩, hB0⟩
    (fun x => { tmps := #[.slice none 0 0, .func (.func 71) #[] #[.pointer (some ⟨Bs, 0, none⟩)], .pointer (some ⟨w.heap.size, 0, none⟩), undef, .slice none 0 0, .int .i64 x, .func (.func 71) #[] #[.pointer (some ⟨Bs, 0, none⟩)], .int .i64 x, undef, undef, undef, undef, undef], defers := [] }) ?assign ?body ?done ?stop
  case assign =>
    intro l x W K hK
    gi_wp2
    exact hK
  case body =>
    rintro l pre x W ⟨⟨v, hv, hrow, hnil⟩, hB⟩ hlt
    have hc := hv.cell
    have hlen : zs.length ≤ maxLen := by simp only [maxLen]; omega
    have hbytes : zs.length * 8 ≤ 140737488355328 := by omega
    gi_wp2_with (gi_at_builtin; refine wpListIn_append_own _ rfl _ _ 22 rfl w.heap.size 3 i0 (.int .i64 0) 1 8 Try.underlying22 hi hz0 hz1 hz2 rfl (by decide) _ _ _ rfl (hrow.alloc _) ⟨W.heap.size, 0, none⟩ 1 1 [.int .i64 x] rfl rfl (cell_one_new _ _ _) (by simp [Value.oneCell']) (by omega) (by omega) (by have := hB.size; simp; omega) ?_; intro v' w1 hown' hgrow _; obtain ⟨g', cap', rfl⟩ := ownsRow_succ hown'; obtain ⟨hv1, hv2, hr2, hk2, hb2⟩ := hv.appended (by decide) hrow hB.size (Nat.le_refl _) hown' hgrow; have hc1 := hv1.cell; have hf1 := hv1.frozen)
    exact ⟨hk2.from _, hb2, ⟨_, hv2, by simpa using hr2, by simp⟩, hB.trans hb2⟩
  case done =>
    rintro D ys W hD rfl ⟨⟨v, hv, hrow, hnil⟩, hB⟩ hK
    have hc := hv.cell
    gi_wp2
    refine ⟨by simp, .inl ⟨_, _, rfl, run_takeDeferred hK, ?_⟩⟩
    exact ⟨_, results_tmp rfl _ _ _, v, rfl, ownsRow_putObj hrow _ hK rfl, hnil, hB.trans (belowK_b (w := w) (Nat.le_refl _) W D _ _ (by simp at hD; omega) hK rfl rfl)⟩
  case stop =>
    rintro D c pre W _ _ h _
    exact h.elim
set_option maxHeartbeats 1000000 in
theorem collect_in (F : Fence) (n : Nat) (h8 : F.fn 69) (h3 : F.fn 74) (h5 : F.fn 71) (hro : F.round = none) (hn : 4 ≤ n) (Bs : Nat) (sv : Value) (zs : List Int) (hreach : zs.length * 8 ≤ 140737488351232) (w : World) (hBs : Bs < w.heap.size)
    (hc : w.cell? ⟨Bs, 0, none⟩ = some sv) (hI : Ints w.heap.size w sv zs) :
    CallsIn F n Try.prog 69 #[.func (.func 71) #[] #[.pointer (some ⟨Bs, 0, none⟩)]] w fun e W' => ∃ v, e = .returned v ∧ W'.ownsRow w.heap.size 3 1 v zs.length (zs.map (Value.int .i64)) ∧ (v = .slice none 0 0 ↔ zs = []) ∧ Below w.heap.size w W' := by
  have h1 : 1 ≤ n := by omega
  refine callsIn_of_wp Try.func69 rfl h8 ?_ hro
  simp only [Try.ntmps69, List.size_toArray, List.length_cons, List.length_nil, Nat.reduceAdd, Nat.reduceSub, Array.replicate_succ, Array.replicate_zero, List.push_toArray, List.append_toArray, List.nil_append, List.cons_append]
  gi_wp2_with (gi_at_call 74; refine (appendSeq_in F (n - 1) h3 h5 hro (by omega) Bs sv zs hreach _ hBs hc hI).mono ?_; rintro e w' ⟨v, rfl, hrow, hnil, hb⟩)
  go_ret
  exact ⟨v, rfl, hrow, hnil, hb⟩
open Go.Fw
theorem rep_of_own {M : Md → Nat → Prop} {w : World} {base : Nat} {v : Value} {zs : List Int} (h : w.ownsRow base 3 1 v zs.length (zs.map (Value.int .i64))) : ∃ f, Rep M w (.osl (.int .i64)) [v] zs f ∧ f.Nodup ∧ ∀ b ∈ f, base ≤ b ∧ b < w.heap.size := by
  rcases h.2 with ⟨rfl, h0⟩ | ⟨g, cap, cur, rfl, hb, hg, h1, h2, h3, h4⟩
  · obtain rfl := List.eq_nil_of_length_eq_zero h0
    exact ⟨[], ⟨none, 0, rfl, .inl ⟨rfl, rfl, rfl, rfl⟩⟩, by simp, by simp⟩
  · rw [Nat.mul_one] at h3 h4
    have hcell : ∀ j, j < cap → w.cell? ⟨g, j, none⟩ = some (cur[j]?.getD undef) ∧ w.frozen? ⟨g, j, none⟩ = false := fun j hj => by
      constructor <;> simp [World.cell?, World.frozen?, hg, show j < cur.size by omega]
    refine ⟨[g], ⟨some ⟨g, 0, none⟩, cap, rfl, .inr ⟨g, 0, List.replicate zs.length [], rfl, by simp, by simp, h1, fun j _ hj => ?_, fun i x f hx hf => ?_⟩⟩, by simp, fun b hb' => ?_⟩
    · obtain ⟨q1, q2⟩ := hcell j (by simpa [Ty.size] using hj)
      exact ⟨by rw [q1]; rfl, q2⟩
    · have hi : i < zs.length := (List.getElem?_eq_some_iff.1 hx).1
      obtain rfl : f = [] := by
        rw [List.getElem?_replicate] at hf
        split at hf <;> simp_all
      refine ⟨[.int .i64 x], rfl, fun j v hj => ?_, rfl, rfl⟩
      cases j with
      | succ j => simp at hj
      | zero =>
        simp only [List.getElem?_cons_zero, Option.some.injEq] at hj
        subst hj
        simp only [Ty.size, Nat.mul_one, Nat.zero_add, Nat.add_zero]
        rw [(hcell i (by omega)).1]
        have : (cur.toList.take zs.length)[i]? = (zs.map (Value.int .i64))[i]? := by rw [h4]
        rw [List.getElem?_take_of_lt hi, Array.getElem?_toList, List.getElem?_map, hx] at this
        rw [this]; rfl
    · simp only [List.mem_singleton] at hb'
      subst hb'
      exact ⟨hb, (Array.getElem?_eq_some_iff.1 hg).1⟩
theorem holds_of_rep {M : Md → Nat → Prop} {w : World} {v : Value} {zs : List Int} {f : List Nat} (h : Rep M w (.osl (.int .i64)) [v] zs f) :
    (∃ a cap, v = .slice a 0 cap ∧ zs = []) ∨ ∃ b o cap, v = .slice (some ⟨b, o, none⟩) zs.length cap ∧ zs.length ≤ cap ∧ Holds (Value.int .i64) w b o zs.toArray ∧ f = [b] := by
  obtain ⟨a, cap, hv, h⟩ := h
  simp only [List.cons.injEq, and_true] at hv
  subst hv
  rcases h with ⟨rfl, rfl, rfl, rfl⟩ | ⟨b, o, fps, rfl, rfl, h1, h2, h3, h4⟩
  · exact .inl ⟨none, 0, rfl, rfl⟩
  · right
    have hfp : fps.flatten = [] := by
      rw [List.flatten_eq_nil_iff]
      intro l hl
      obtain ⟨i, hi, rfl⟩ := List.mem_iff_getElem.1 hl
      obtain ⟨ds, _, _, hr⟩ := h4 i (zs[i]'(by omega)) fps[i] (by simp) (by simp)
      exact hr.1
    refine ⟨b, o, cap, rfl, h2, fun j hj => ?_, by rw [hfp]⟩
    have hj' : j < zs.length := by simpa using hj
    obtain ⟨ds, d1, d2, _, d3⟩ := h4 j zs[j] (fps[j]'(by omega)) (by simp) (by simp)
    subst d3
    have q1 := d2 0 _ rfl
    simp only [Ty.size, Nat.mul_one, Nat.add_zero] at q1
    exact ⟨by rw [q1]; simp [hj'], (h3 (o + j) (by omega) (by simp only [Ty.size]; omega)).2⟩
def SortOk (E : Env) (sort : List Int → Option (List Int)) : Prop := ∀ zs ys, sort zs = some ys → CallOk E 70 [.m ⟨.osl (.int .i64), zs⟩ ys] []
set_option maxRecDepth 100000 in
set_option maxHeartbeats 2000000 in
theorem sorted_in (F : Fence) (hall : ∀ f, F.fn f) (hro : F.round = none) (hcv : ∀ (m : Nat) (f : FuncId) (args : Array Value) (w : World) (R : Ending → World → Prop), Calls Try.prog f args w R → CallsIn F m Try.prog f args w R) {E : Env} (hE : E.P = Try.prog) {sort : List Int → Option (List Int)} (hs : SortOk E sort) (n : Nat) (hn : 5 ≤ n) (Bs : Nat) (sv : Value) (zs ys : List Int) (hys : sort zs = some ys) (hreach : zs.length * 8 ≤ 140737488351232) (w : World) (hBs : Bs < w.heap.size)
    (hc : w.cell? ⟨Bs, 0, none⟩ = some sv) (hI : Ints w.heap.size w sv zs) :
    CallsIn F n Try.prog 63 #[.func (.func 71) #[] #[.pointer (some ⟨Bs, 0, none⟩)]] w fun e W' => ∃ v f M, e = .returned v ∧ Rep M W' (.osl (.int .i64)) [v] ys f ∧ (∀ b ∈ f, w.heap.size ≤ b) ∧ Below w.heap.size w W' := by
  have h1 : 1 ≤ n := by omega
  have hq1 := hall 69
  have hq2 := hall 70
  refine callsIn_of_wp Try.func63 rfl (hall _) ?_ hro
  simp only [Try.ntmps63, List.size_toArray, List.length_cons, List.length_nil, Nat.reduceAdd, Nat.reduceSub, Array.replicate_succ, Array.replicate_zero, List.push_toArray, List.append_toArray, List.nil_append, List.cons_append]
  gi_wp2_with (first
    | (gi_at_call 69; refine (collect_in F (n - 1) (hall _) (hall _) (hall _) hro (by omega) Bs sv zs hreach _ hBs hc hI).mono ?_; rintro e W ⟨v, rfl, hrow, hnil, hb⟩
       obtain ⟨f, hr, hnd, hf⟩ := rep_of_own (M := md (fun _ => False) (fun _ => False)) hrow
       have hcall := hs zs ys hys W (fun _ => False) (fun _ => False) [v] [f] (fun b h => by rcases h with h | h <;> exact h.elim) ⟨⟨[v], rfl, hr⟩, trivial⟩ (by simpa using hnd) (fun b hb => ⟨fun h => h, fun h => h, (hf b (by simpa using hb)).2⟩) True.intro
       rw [hE] at hcall
       have hcall := hcv (n - 1) _ _ _ _ hcall
       clear hrow hnil)
    | (gi_at_call 70; refine hcall.mono ?_; rintro e W2 ⟨I', gs, hs2, rv, rfl, hp⟩))
  have hg : ∃ g, gs = [g] := by
    have := hp.args
    match gs, this with
    | [g], _ => exact ⟨g, rfl⟩
    | [], h => exact h.elim
    | _ :: _ :: _, h => exact h.2.elim
  obtain ⟨g, rfl⟩ := hg
  obtain ⟨cs, e1, hr2⟩ := hp.args.1
  have hl2 := hr2.len
  obtain ⟨c, rfl⟩ := List.length_eq_one_iff.1 hl2
  have e1 : v = c := e1
  subst e1
  have hrv : rv = [] := by
    have := hp.res
    match rv, this with
    | [], _ => rfl
    | _ :: _, h => exact h.elim
  subst hrv
  go_ret
  refine ⟨v, g, _, rfl, hr2, fun b hb' => ?_, ?_⟩
  · have := (hp.bl b (by simp [hb'])).2.2.2
    rcases this with h | h
    · exact Nat.le_trans hb.size h
    · exact (hf b (by simpa using h)).1
  · exact ⟨hp.os.trans hb.os, hp.tape.trans hb.tape, hp.output.trans hb.output, Nat.le_trans hb.size hp.size, fun k hk => (hp.heap k (Nat.lt_of_lt_of_le hk hb.size) (fun h => by have := (hf k (by simpa using h)).1; omega)).trans (hb.block k hk)⟩
theorem compact_of_rep {M : Md → Nat → Prop} {W : World} {B : Nat} {v : Value} {ys : List Int} {f : List Nat} (hr : Rep M W (.osl (.int .i64)) [v] ys f) (hf : ∀ b ∈ f, B ≤ b) (hl : ys.length ≤ 1000000) :
    Calls Try.prog 62 #[v] W (fun e w' => ∃ a cap, e = .returned (.slice a (Lib.compact ys).length cap) ∧ Below B W w') := by
  rcases holds_of_rep hr with ⟨a, cap, rfl, rfl⟩ | ⟨b, o, cap, rfl, hcap, hH, rfl⟩
  · refine (Any.slices_Compact_int_empty Try.laysCompact a cap W).mono ?_
    rintro e w' ⟨rfl, rfl⟩
    exact ⟨a, cap, rfl, Below.refl _ _⟩
  · refine (Any.slices_Compact_int Try.laysCompact b o cap ys W hH (by omega) hcap).mono ?_
    rintro e w' ⟨rfl, q, rfl⟩
    refine ⟨_, cap, rfl, rfl, rfl, rfl, by simp [putRow, mapBlock, Sort.ahead], fun k hk => ?_⟩
    have := hf b (by simp)
    simp [putRow, mapBlock, Sort.ahead, Array.getElem?_modify, show b ≠ k by omega]
set_option maxRecDepth 100000 in
set_option maxHeartbeats 2000000 in
theorem twice_in (F : Fence) (hall : ∀ f, F.fn f) (hro : F.round = none) (hcv : ∀ (m : Nat) (f : FuncId) (args : Array Value) (w : World) (R : Ending → World → Prop), Calls Try.prog f args w R → CallsIn F m Try.prog f args w R) {E : Env}
    (hE : E.P = Try.prog) {sort : List Int → Option (List Int)} (hs : SortOk E sort) (n : Nat) (hn : 7 ≤ n) (a : Option Addr) (len cap : Nat) (zs ys : List Int) (hys : sort zs = some ys) (hlen : zs.length = len) (hreach : zs.length ≤ 1000000) (hy : ys.length ≤ 1000000) (w : World) (hI : Ints w.heap.size w (.slice a len cap) zs) :
    CallsIn F n Try.prog 53 #[.slice a len cap] w fun e W' => e = .returned (.bool (decide ((Lib.compact ys).length < zs.length))) ∧ Below w.heap.size w W' := by
  have h1 : 1 ≤ n := by omega
  have hq1 := hall 64
  have hq2 := hall 63
  have hq3 := hall 62
  generalize hcl : (Lib.compact ys).length = cl
  refine callsIn_of_wp Try.func53 rfl (hall _) ?_ hro
  simp only [Try.ntmps53, List.size_toArray, List.length_cons, List.length_nil, Nat.reduceAdd, Nat.reduceSub, Array.replicate_succ, Array.replicate_zero, List.push_toArray, List.append_toArray, List.nil_append, List.cons_append]
  have bO := Boxed.new w 22 (.slice a len cap)
  have hB0 : Below w.heap.size w (w.alloc (.cells #[.slice a len cap] 22)) := (Below.refl _ w).alloc (Nat.le_refl _) _
  have hI0 : Ints (w.alloc (.cells #[.slice a len cap] 22)).heap.size (w.alloc (.cells #[.slice a len cap] 22)) (.slice a len cap) zs := by
    rcases hI.below hB0 with h | ⟨b, off, cap', e, hb, hc⟩
    · exact .inl h
    · exact .inr ⟨b, off, cap', e, by simp; omega, hc⟩
  have hsorted := sorted_in F hall hro hcv hE hs (n - 1) (by omega) w.heap.size (.slice a len cap) zs ys hys (by omega) _ (by simp) bO.cell hI0
  gi_wp2_with (first
    | (gi_at_call 64; refine (values_in F (n - 1) (hall _) hro a len cap w).mono ?_; rintro e w' ⟨rfl, rfl⟩)
    | (gi_at_call 63; refine hsorted.mono ?_; rintro e W ⟨v, f, M, rfl, hr, hf, hb⟩; have hcomp := hcv (n - 1) _ _ _ _ (compact_of_rep (B := w.heap.size) hr (fun b hb' => by have := hf b hb'; simp at this; omega) hy); rw [hcl] at hcomp; have X : Below w.heap.size w W := hB0.trans (hb.mono (by simp)); clear hr hf hb hsorted)
    | (gi_at_call 62; refine hcomp.mono ?_; rintro e W2 ⟨a2, cap2, rfl, hb2⟩))
  go_ret
  exact ⟨by rw [hlen]; rfl, X.trans hb2⟩
noncomputable def twFun (sort : List Int → Option (List Int)) : Fun := ⟨53, [.v (.slc .bor (.int .i64))], [.bool], fun a => (twSem sort a.1).map fun b => (b, ())⟩
theorem tw_ok {E : Env} (hE : E.P = Try.prog) {sort : List Int → Option (List Int)} (hs : SortOk E sort) : OkFun E (twFun sort) := by
  refine ⟨fun vs w => by rw [hE]; exact Try.call53 vs w, ?_⟩
  rintro ⟨zs, _⟩ b hb
  have hb2 : (twSem sort zs).map (fun b => (b, ())) = some b := hb
  obtain ⟨b0, hb0, rfl⟩ := Option.map_eq_some_iff.1 hb2
  clear hb hb2
  unfold twSem at hb0
  cases h1 : Nat.ble zs.length 1000000 with
  | false => rw [h1] at hb0; cases hb0
  | true =>
  rw [h1] at hb0
  obtain ⟨ys, hys, hb0⟩ := Option.bind_eq_some_iff.1 hb0
  cases h2 : Nat.ble ys.length 1000000 with
  | false => rw [h2] at hb0; cases hb0
  | true =>
  rw [h2] at hb0
  have hb : decide ((Lib.compact ys).length < zs.length) = b0 := Option.some.inj hb0
  subst hb
  have h1 := Nat.le_of_ble_eq_true h1
  have h2 := Nat.le_of_ble_eq_true h2
  rintro w I B vs fs hIB hargs hnd hfs _hself
  have hargs : all3 (ArgH I B w) [.v ⟨.slc .bor (.int .i64), zs⟩] vs fs := hargs
  obtain ⟨v, f, rfl, rfl⟩ : ∃ v f, vs = [v] ∧ fs = [f] := by
    cases vs with
    | nil => exact hargs.elim
    | cons v vs =>
      cases fs with
      | nil => exact hargs.elim
      | cons f fs =>
        have h := hargs.2
        cases vs with
        | nil => cases fs with
          | nil => exact ⟨v, f, rfl, rfl⟩
          | cons => exact h.elim
        | cons => exact h.elim
  obtain ⟨⟨rfl, cs, rfl, hr⟩, _⟩ := hargs
  obtain ⟨_, a, cap, rfl, hcap, hnil, hel⟩ := hr
  have hI : Ints w.heap.size w (.slice a zs.length cap) zs := by
    rcases hel with h | ⟨b, o, rfl, hM, hx⟩
    · exact .inl ⟨a, cap, by rw [show zs = [] from h]; rfl, h⟩
    · refine .inr ⟨b, o, cap, rfl, hIB b hM, fun j hj => ?_⟩
      obtain ⟨ds, d1, d2, _, d3⟩ := hx j zs[j] (by simp [hj])
      subst d3
      have q := d2 0 _ rfl
      simp only [Ty.size, Nat.mul_one, Nat.add_zero] at q
      rw [q]; simp [hj]
  have h := twice_in Fence.wide (fun _ => trivial) rfl (fun m f args w R h => (callsIn_wide (n := m)).2 h) hE hs 10 (by omega) a zs.length cap zs ys hys rfl h1 h2 w hI
  have h := callsIn_wide.1 h
  show Calls E.P 53 #[.slice a zs.length cap] w _
  rw [hE]
  refine h.mono ?_
  rintro e w' ⟨rfl, hb⟩
  refine ⟨I, [[]], [[]], [.bool _], rfl, ⟨⟨rfl, trivial⟩, ⟨⟨[.bool _], rfl, rfl, rfl⟩, trivial⟩, by simp, by simp, fun _ h => h, fun _ h => .inl h, hb.size, hb.os, hb.tape, hb.output, fun b hb' _ => hb.block b hb'⟩⟩
end Tw
end Go.Proofs
end

section
namespace Go.Fw
open Go.Proofs
def tt : List (Nat × Ty) := [(3, (.int .i64)), (4, .bool), (5, (.int .u8)), (9, .str), (22, (.slc .imm (.int .i64))), (25, (.slc .imm (.slc .imm (.int .i64)))), (27, (.st (.pr (.slc .imm (.slc .imm (.int .i64))) .nil))), (40, (.slc .imm (.slc .imm .bool))), (41, (.slc .imm .bool)), (43, (.st (.pr (.slc .imm (.slc .imm .bool)) (.pr (.slc .imm .bool) .nil)))), (51, (.int .u64)), (56, (.slc .imm (.slc .imm .bool))), (58, (.st (.pr (.slc .imm (.slc .imm .bool)) (.pr (.slc .imm .bool) .nil)))), (112, (.int .u32)), (114, (.int .u64)), (115, (.int .u64))]
noncomputable def E : Env := ⟨Try.prog, tt, tt_ok (by kernel_rfl), by kernel_rfl⟩
noncomputable def F45 : Fun := ⟨45, [.v (.slc .bor (.int .i64)), .v (.int .i64)], [.bool], d_graph_ascending⟩
theorem ok45 : OkFun E F45 :=
  OkFun.of (fn := Try.f45) (rs := [.tmp 4]) ([]) [] [] (.keep [0, 1] (.two .none (.leaf) (.two .none (.leaf) (.two .none (.two .none (.leaf) (.one (.keep [8, 9] (.loop ⟨[(5, .v (.int .i64)), (10, .v (.int .i64))], []⟩ (.xr 0 ⟨[], []⟩) (.two .none (.leaf) (.two .none (.two .none (.leaf) (.leaf)) (.two (.xr [10] ⟨[(5, .v (.int .i64))], []⟩) (.one (.two .none (.leaf) (.two (.xr [7] ⟨[], []⟩) (.two .none (.leaf) (.two .none (.two .none (.leaf) (.leaf)) (.leaf))) (.leaf)))) (.leaf)))))))) (.two .none (.leaf) (.leaf)))))) Try.func45 (by kernel_rfl) (by kernel_rfl) (by kernel_rfl) Try.call45 tbl_nil (by intro a; kernel_rfl)
noncomputable def F73 : Fun := ⟨73, [.v (.int .i64)], [.bool], d_cmp_isNaN_int⟩
theorem ok73 : OkFun E F73 :=
  OkFun.of (fn := Try.f73) (rs := [.tmp 2]) ([]) [] [] (.keep [0] (.two .none (.leaf) (.two .none (.leaf) (.leaf)))) Try.func73 (by kernel_rfl) (by kernel_rfl) (by kernel_rfl) Try.call73 tbl_nil (by intro a; kernel_rfl)
noncomputable def F67 : Fun := ⟨67, [.v (.int .i64), .v (.int .i64)], [.bool], d_cmp_Less_int⟩
theorem ok67 : OkFun E F67 :=
  OkFun.of (fn := Try.f67) (rs := [.tmp 4]) ((73, F73) :: []) [] [] (.keep [0, 1] (.two .none (.leaf) (.two .none (.leaf) (.leaf)))) Try.func67 (by kernel_rfl) (by kernel_rfl) (by kernel_rfl) Try.call67 (tbl_cons ok73 tbl_nil) (by intro a; kernel_rfl)
noncomputable def F68 : Fun := ⟨68, [.v (.int .i64)], [.bool], d_slices_isNaN_int⟩
theorem ok68 : OkFun E F68 :=
  OkFun.of (fn := Try.f68) (rs := [.tmp 2]) ([]) [] [] (.keep [0] (.two .none (.leaf) (.two .none (.leaf) (.leaf)))) Try.func68 (by kernel_rfl) (by kernel_rfl) (by kernel_rfl) Try.call68 tbl_nil (by intro a; kernel_rfl)
noncomputable def F59 : Fun := ⟨59, [.v (.slc .bor (.int .i64)), .v (.int .i64)], [(.int .i64), .bool], d_slices_BinarySearch_int_int⟩
theorem ok59 : OkFun E F59 :=
  OkFun.of (fn := Try.f59) (rs := [.tmp 4, .tmp 5]) ((68, F68) :: (67, F67) :: []) [] [] (.keep [0, 1] (.two .none (.leaf) (.two .none (.leaf) (.two .none (.leaf) (.two .none (.one (.keep [6] (.loop ⟨[(7, .v (.int .i64)), (8, .v (.int .i64))], []⟩ (.x 0 ⟨[(7, .v (.int .i64))], []⟩) (.two .none (.two .none (.leaf) (.two .none (.leaf) (.leaf))) (.one (.two .none (.leaf) (.two .none (.leaf) (.two .none (.leaf) (.leaf))))))))) (.two .none (.leaf) (.leaf))))))) Try.func59 (by kernel_rfl) (by kernel_rfl) (by kernel_rfl) Try.call59 (tbl_cons ok68 (tbl_cons ok67 tbl_nil)) (by intro a; kernel_rfl)
noncomputable def F46 : Fun := ⟨46, [.v (.st (.pr (.slc .bor (.slc .bor (.int .i64))) .nil)), .v (.int .i64), .v (.int .i64)], [.bool], d_graph_joined⟩
theorem ok46 : OkFun E F46 :=
  OkFun.of (fn := Try.f46) (rs := [.tmp 6]) ((59, F59) :: []) [(3, (.ptr .imm (.st (.pr (.slc .bor (.slc .bor (.int .i64))) .nil))))] [] (.keep [0, 1, 2] (.two .none (.leaf) (.two .none (.leaf) (.two .none (.leaf) (.leaf))))) Try.func46 (by kernel_rfl) (by kernel_rfl) (by kernel_rfl) Try.call46 (tbl_cons ok59 tbl_nil) (by intro a; kernel_rfl)
noncomputable def F33 : Fun := ⟨33, [.v (.st (.pr (.slc .bor (.slc .bor (.int .i64))) .nil))], [(.int .i64)], d_graph_Check⟩
theorem ok33 : OkFun E F33 :=
  OkFun.of (fn := Try.f33) (rs := [.tmp 2]) ((46, F46) :: (45, F45) :: []) [(1, (.ptr .imm (.st (.pr (.slc .bor (.slc .bor (.int .i64))) .nil))))] [] (.keep [0] (.two .none (.leaf) (.two .none (.leaf) (.two .none (.two .none (.leaf) (.two .none (.two .none (.leaf) (.leaf)) (.leaf))) (.two .none (.two .none (.leaf) (.one (.keep [1, 3, 16, 17] (.loop ⟨[(18, .v (.int .i64))], []⟩ (.xr 0 ⟨[], []⟩) (.two .none (.leaf) (.two .none (.two .none (.leaf) (.leaf)) (.two (.xr [18] ⟨[], []⟩) (.one (.two .none (.leaf) (.two .none (.leaf) (.two .none (.two .none (.leaf) (.leaf)) (.leaf))))) (.leaf)))))))) (.two .none (.two .none (.leaf) (.one (.keep [1, 35, 36] (.loop ⟨[(37, .v (.int .i64))], []⟩ (.xr 2 ⟨[], []⟩) (.two .none (.leaf) (.two .none (.two .none (.leaf) (.leaf)) (.two .none (.one (.two .none (.leaf) (.two .none (.leaf) (.one (.keep [6, 37, 42, 43] (.loop ⟨[(44, .v (.int .i64))], []⟩ (.xr 4 ⟨[], []⟩) (.two .none (.leaf) (.two .none (.two .none (.leaf) (.leaf)) (.two .none (.one (.two .none (.leaf) (.two .none (.leaf) (.two .none (.two .none (.leaf) (.leaf)) (.leaf))))) (.leaf)))))))))) (.leaf)))))))) (.two .none (.leaf) (.leaf)))))))) Try.func33 (by kernel_rfl) (by kernel_rfl) (by kernel_rfl) Try.call33 (tbl_cons ok46 (tbl_cons ok45 tbl_nil)) (by intro a; kernel_rfl)
noncomputable def F60 : Fun := ⟨60, [.v (.int .i64)], [(.osl (.osl .bool))], d_graph_NewSets⟩
theorem ok60 : OkFun E F60 :=
  OkFun.of (fn := Try.f60) (rs := [.tmp 2]) ([]) [(6, (.osl (.osl .bool))), (15, (.osl .bool))] [] (.keep [0] (.two .none (.leaf) (.two .none (.leaf) (.two .none (.two .none (.leaf) (.one (.keep [8] (.loop ⟨[(3, .s (.ref 3 [])), (9, .v (.int .i64))], [(3, (.osl (.osl .bool)))]⟩ (.x 0 ⟨[(3, .s (.ref 3 []))], [(3, (.osl (.osl .bool)))]⟩) (.two .none (.leaf) (.two .none (.two .none (.leaf) (.leaf)) (.two .none (.one (.two .none (.leaf) (.leaf))) (.leaf)))))))) (.two .none (.leaf) (.leaf)))))) Try.func60 (by kernel_rfl) (by kernel_rfl) (by kernel_rfl) Try.call60 tbl_nil (by intro a; kernel_rfl)
noncomputable def F48 : Fun := ⟨48, [.m (.osl (.osl .bool)), .v (.int .i64), .v (.int .i64)], [], d_graph_Sets_Join⟩
theorem ok48 : OkFun E F48 :=
  OkFun.of (fn := Try.f48) (rs := []) ([]) [] [] (.keep [1, 2] (.two .none (.leaf) (.two .none (.draw [⟨0, [9], [0], [], [500000], []⟩, ⟨1, [10], [1], [], [], []⟩, ⟨2, [11], [9, 10], [0, 1], [0], []⟩, ⟨3, [12], [11], [2], [0], []⟩, ⟨4, [13], [2], [], [], []⟩, ⟨5, [14], [0], [], [500000], []⟩, ⟨6, [15], [2], [], [], []⟩, ⟨7, [16], [14, 15], [5, 6], [0], []⟩, ⟨8, [17], [16], [7], [0], []⟩, ⟨9, [18], [1], [], [], []⟩, ⟨10, [19], [12, 13], [3, 4, 0, 1, 2, 3, 4, 8], [0], []⟩, ⟨11, [], [19], [10, 0, 1, 2, 3, 4, 8], [0], [0]⟩, ⟨12, [20], [17, 18], [8, 9, 0, 1, 2, 3, 4, 5, 6, 7, 8, 9, 10, 11], [0], []⟩, ⟨13, [], [20], [12, 11, 0, 1, 2, 3, 4, 5, 6, 7, 8, 9, 10, 11], [0], [0]⟩]) (.leaf)))) Try.func48 (by kernel_rfl) (by kernel_rfl) (by kernel_rfl) Try.call48 tbl_nil (by intro a; kernel_rfl)
noncomputable def F47 : Fun := ⟨47, [.v (.st (.pr (.slc .bor (.slc .bor (.int .i64))) .nil))], [(.osl (.osl .bool))], d_graph_Table⟩
theorem ok47 : OkFun E F47 :=
  OkFun.of (fn := Try.f47) (rs := [.tmp 2]) ((60, F60) :: (48, F48) :: []) [(1, (.ptr .imm (.st (.pr (.slc .bor (.slc .bor (.int .i64))) .nil))))] [] (.keep [0] (.two .none (.leaf) (.two .none (.leaf) (.two .none (.two .none (.leaf) (.one (.keep [13, 14] (.loop ⟨[(3, .s (.ref 3 [])), (15, .v (.int .i64))], [(3, (.osl (.osl .bool)))]⟩ (.x 0 ⟨[(3, .s (.ref 3 []))], [(3, (.osl (.osl .bool)))]⟩) (.two .none (.leaf) (.two .none (.two .none (.leaf) (.leaf)) (.two .none (.one (.two .none (.leaf) (.two .none (.leaf) (.one (.keep [4, 15, 20, 21] (.loop ⟨[(3, .s (.ref 3 [])), (22, .v (.int .i64))], [(3, (.osl (.osl .bool)))]⟩ (.x 2 ⟨[(3, .s (.ref 3 []))], [(3, (.osl (.osl .bool)))]⟩) (.two .none (.leaf) (.two .none (.two .none (.leaf) (.leaf)) (.two .none (.one (.two .none (.leaf) (.leaf))) (.leaf)))))))))) (.leaf)))))))) (.two .none (.leaf) (.leaf)))))) Try.func47 (by kernel_rfl) (by kernel_rfl) (by kernel_rfl) Try.call47 (tbl_cons ok60 (tbl_cons ok48 tbl_nil)) (by intro a; kernel_rfl)
noncomputable def F34 : Fun := ⟨34, [.v (.st (.pr (.slc .bor (.slc .bor (.int .i64))) .nil))], [(.optr (.st (.pr (.osl (.osl .bool)) (.pr (.osl .bool) .nil))))], d_mindeg_Start⟩
theorem ok34 : OkFun E F34 :=
  OkFun.of (fn := Try.f34) (rs := [.tmp 2]) ((47, F47) :: []) [(1, (.ptr .imm (.st (.pr (.slc .bor (.slc .bor (.int .i64))) .nil)))), (8, (.osl .bool))] [] (.keep [0] (.two .none (.leaf) (.two .none (.draw [⟨0, [3], [1], [], [], []⟩, ⟨1, [4], [3], [0], [4], [4]⟩, ⟨2, [5], [1], [], [], []⟩, ⟨3, [6], [5], [2], [], []⟩, ⟨4, [7], [6], [3], [], []⟩, ⟨5, [8], [7, 7], [4, 4], [8], [8]⟩, ⟨6, [9], [4, 8], [1, 5], [4, 8, 9], [4, 8, 9, 500004, 500008]⟩, ⟨7, [10], [9], [6], [9, 10], [9, 10, 500009]⟩, ⟨8, [2], [10], [7, 1, 0, 1, 2, 3, 4, 5, 6, 7], [2, 10], [2, 10, 500002, 500010]⟩]) (.leaf)))) Try.func34 (by kernel_rfl) (by kernel_rfl) (by kernel_rfl) Try.call34 (tbl_cons ok47 tbl_nil) (by intro a; kernel_rfl)
noncomputable def F35 : Fun := ⟨35, [.v (.slc .bor (.slc .bor .bool)), .v (.int .i64)], [(.osl (.int .i64))], d_graph_Sets_List⟩
theorem ok35 : OkFun E F35 :=
  OkFun.of (fn := Try.f35) (rs := [.tmp 4]) ([]) [(5, (.osl (.int .i64)))] [] (.keep [0, 1] (.two .none (.leaf) (.two .none (.leaf) (.two .none (.two .none (.leaf) (.one (.keep [11, 12] (.loop ⟨[(5, .s (.ref 5 [])), (13, .v (.int .i64))], [(5, (.osl (.int .i64)))]⟩ (.x 0 ⟨[(5, .s (.ref 5 []))], [(5, (.osl (.int .i64)))]⟩) (.two .none (.leaf) (.two .none (.two .none (.leaf) (.leaf)) (.two (.x [13] ⟨[(5, .s (.ref 5 []))], [(5, (.osl (.int .i64)))]⟩) (.one (.two .none (.leaf) (.two .none (.leaf) (.two .none (.leaf) (.leaf))))) (.leaf)))))))) (.two .none (.leaf) (.leaf)))))) Try.func35 (by kernel_rfl) (by kernel_rfl) (by kernel_rfl) Try.call35 tbl_nil (by intro a; kernel_rfl)
noncomputable def F36 : Fun := ⟨36, [.m (.optr (.st (.pr (.osl (.osl .bool)) (.pr (.osl .bool) .nil)))), .v (.int .i64)], [(.slc .imm (.int .i64))], d_mindeg_Elimination_Eliminate⟩
theorem ok36 : OkFun E F36 :=
  OkFun.of (fn := Try.f36) (rs := [.tmp 4]) ((48, F48) :: (35, F35) :: []) [(5, (.slc .imm (.int .i64)))] [(5, 15)] (.keep [1] (.two .none (.leaf) (.two .none (.leaf) (.two .none (.two .none (.leaf) (.one (.keep [5, 16, 17] (.loop ⟨[(0, .s (.ref 0 [])), (18, .v (.int .i64))], [(0, (.optr (.st (.pr (.osl (.osl .bool)) (.pr (.osl .bool) .nil)))))]⟩ (.x 0 ⟨[(0, .s (.ref 0 []))], [(0, (.optr (.st (.pr (.osl (.osl .bool)) (.pr (.osl .bool) .nil)))))]⟩) (.two .none (.leaf) (.two .none (.two .none (.leaf) (.leaf)) (.two .none (.one (.two .none (.leaf) (.two .none (.two .none (.leaf) (.one (.keep [7, 18, 25, 26] (.loop ⟨[(0, .s (.ref 0 [])), (27, .v (.int .i64))], [(0, (.optr (.st (.pr (.osl (.osl .bool)) (.pr (.osl .bool) .nil)))))]⟩ (.x 2 ⟨[(0, .s (.ref 0 []))], [(0, (.optr (.st (.pr (.osl (.osl .bool)) (.pr (.osl .bool) .nil)))))]⟩) (.two .none (.leaf) (.two .none (.two .none (.leaf) (.leaf)) (.two .none (.one (.two .none (.leaf) (.leaf))) (.leaf)))))))) (.draw [⟨0, [39], [0], [], [500000], []⟩, ⟨1, [40], [39], [0], [0], []⟩, ⟨2, [41], [40], [1], [0], []⟩, ⟨3, [42], [41], [2], [0], []⟩, ⟨4, [43], [7], [], [], []⟩, ⟨5, [44], [42, 43], [3, 4], [0], []⟩, ⟨6, [45], [44], [5], [0], []⟩, ⟨7, [46], [1], [], [], []⟩, ⟨8, [47], [0], [], [500000], []⟩, ⟨9, [48], [47], [8], [0], []⟩, ⟨10, [49], [48], [9], [0], []⟩, ⟨11, [50], [49], [10], [0], []⟩, ⟨12, [51], [1], [], [], []⟩, ⟨13, [52], [50, 51], [11, 12], [0], []⟩, ⟨14, [53], [52], [13], [0], []⟩, ⟨15, [54], [7], [], [], []⟩, ⟨16, [55], [45, 46], [6, 7, 0, 1, 2, 3, 4, 5, 6, 7, 11, 14], [0], []⟩, ⟨17, [], [55], [16, 0, 1, 2, 3, 4, 5, 6, 7, 11, 14], [0], [0]⟩, ⟨18, [56], [53, 54], [14, 15, 0, 1, 2, 3, 4, 5, 6, 7, 8, 9, 10, 11, 12, 13, 14, 15, 16, 17], [0], []⟩, ⟨19, [], [56], [18, 17, 0, 1, 2, 3, 4, 5, 6, 7, 8, 9, 10, 11, 12, 13, 14, 15, 16, 17], [0], [0]⟩])))) (.leaf)))))))) (.two .none (.leaf) (.two .none (.leaf) (.leaf))))))) Try.func36 (by kernel_rfl) (by kernel_rfl) (by kernel_rfl) Try.call36 (tbl_cons ok48 (tbl_cons ok35 tbl_nil)) (by intro a; kernel_rfl)
noncomputable def F14 : Fun := ⟨14, [.v (.st (.pr (.slc .bor (.slc .bor (.int .i64))) .nil))], [(.osl (.int .i64)), (.int .i64)], d_mindeg_Exact⟩
theorem ok14 : OkFun E F14 :=
  OkFun.of (fn := Try.f14) (rs := [.tmp 2, .tmp 3]) ((36, F36) :: (35, F35) :: (34, F34) :: (33, F33) :: []) [(1, (.ptr .imm (.st (.pr (.slc .bor (.slc .bor (.int .i64))) .nil)))), (6, (.osl (.int .i64))), (2, (.osl (.int .i64)))] [] (.keep [0] (.two .none (.leaf) (.two .none (.leaf) (.two .none (.two .none (.leaf) (.two .none (.two .none (.leaf) (.leaf)) (.leaf))) (.two .none (.leaf) (.two .none (.leaf) (.two .none (.two .none (.leaf) (.one (.keep [1, 20] (.loop ⟨[(5, .s (.ref 5 [])), (6, .s (.ref 6 [])), (21, .v (.int .i64))], [(5, (.optr (.st (.pr (.osl (.osl .bool)) (.pr (.osl .bool) .nil))))), (6, (.osl (.int .i64)))]⟩ (.x 0 ⟨[(6, .s (.ref 6 []))], [(6, (.osl (.int .i64)))]⟩) (.two .none (.leaf) (.two .none (.two .none (.leaf) (.leaf)) (.two .none (.one (.two .none (.leaf) (.two .none (.two .none (.leaf) (.one (.keep [21, 25] (.loop ⟨[(5, .s (.ref 5 [])), (6, .s (.ref 6 [])), (7, .v (.int .i64)), (8, .v (.int .i64)), (26, .v (.int .i64))], [(5, (.optr (.st (.pr (.osl (.osl .bool)) (.pr (.osl .bool) .nil))))), (6, (.osl (.int .i64)))]⟩ (.x 2 ⟨[(5, .s (.ref 5 [])), (6, .s (.ref 6 [])), (7, .v (.int .i64))], [(5, (.optr (.st (.pr (.osl (.osl .bool)) (.pr (.osl .bool) .nil))))), (6, (.osl (.int .i64)))]⟩) (.two .none (.leaf) (.two .none (.two .none (.leaf) (.leaf)) (.two (.x [26] ⟨[(5, .s (.ref 5 [])), (6, .s (.ref 6 [])), (7, .v (.int .i64)), (8, .v (.int .i64))], [(5, (.optr (.st (.pr (.osl (.osl .bool)) (.pr (.osl .bool) .nil))))), (6, (.osl (.int .i64)))]⟩) (.one (.two .none (.leaf) (.two .none (.leaf) (.two (.x [7, 8, 9, 10] ⟨[(5, .s (.ref 5 [])), (6, .s (.ref 6 [])), (52, .v .bool)], [(5, (.optr (.st (.pr (.osl (.osl .bool)) (.pr (.osl .bool) .nil))))), (6, (.osl (.int .i64)))]⟩) (.leaf) (.two .none (.leaf) (.leaf)))))) (.leaf)))))))) (.two .none (.leaf) (.leaf))))) (.leaf)))))))) (.two .none (.leaf) (.leaf))))))))) Try.func14 (by kernel_rfl) (by kernel_rfl) (by kernel_rfl) Try.call14 (tbl_cons ok36 (tbl_cons ok35 (tbl_cons ok34 (tbl_cons ok33 tbl_nil)))) (by intro a; kernel_rfl)
noncomputable def F52 : Fun := ⟨52, [.v (.st (.pr (.slc .bor (.slc .bor (.int .i64))) .nil)), .v (.int .i64)], [.bool], d_graph_vertex⟩
theorem ok52 : OkFun E F52 :=
  OkFun.of (fn := Try.f52) (rs := [.tmp 4]) ([]) [(2, (.ptr .imm (.st (.pr (.slc .bor (.slc .bor (.int .i64))) .nil))))] [] (.keep [0, 1] (.two .none (.leaf) (.two .none (.leaf) (.leaf)))) Try.func52 (by kernel_rfl) (by kernel_rfl) (by kernel_rfl) Try.call52 tbl_nil (by intro a; kernel_rfl)
noncomputable def F86 : Fun := ⟨86, [.v (.int .u64)], [(.int .i64)], d_math_bits_Len64⟩
theorem ok86 : OkFun E F86 :=
  OkFun.of (fn := Try.f86) (rs := [.tmp 2]) ([]) [] [] (.two .none (.leaf) (.two (.x [] ⟨[(0, .v (.int .u64)), (2, .v (.int .i64))], []⟩) (.two .none (.leaf) (.two .none (.two .none (.leaf) (.leaf)) (.leaf))) (.two (.x [] ⟨[(0, .v (.int .u64)), (2, .v (.int .i64))], []⟩) (.two .none (.leaf) (.two .none (.two .none (.leaf) (.leaf)) (.leaf))) (.two (.x [] ⟨[(0, .v (.int .u64)), (2, .v (.int .i64))], []⟩) (.two .none (.leaf) (.two .none (.two .none (.leaf) (.leaf)) (.leaf))) (.two .none (.leaf) (.leaf)))))) Try.func86 (by kernel_rfl) (by kernel_rfl) (by kernel_rfl) Try.call86 tbl_nil (by intro a; kernel_rfl)
noncomputable def F76 : Fun := ⟨76, [.v (.int .u64)], [(.int .i64)], d_math_bits_Len⟩
theorem ok76 : OkFun E F76 :=
  OkFun.of (fn := Try.f76) (rs := [.tmp 2]) ((86, F86) :: []) [] [] (.keep [0] (.two .none (.leaf) (.two .none (.two .none (.two .none (.leaf) (.leaf)) (.leaf)) (.two .none (.leaf) (.leaf))))) Try.func76 (by kernel_rfl) (by kernel_rfl) (by kernel_rfl) Try.call76 (tbl_cons ok86 tbl_nil) (by intro a; kernel_rfl)
noncomputable def F77 : Fun := ⟨77, [.m (.osl (.int .i64)), .v (.int .i64), .v (.int .i64)], [], d_slices_insertionSortOrdered_int⟩
theorem ok77 : OkFun E F77 :=
  OkFun.of (fn := Try.f77) (rs := []) ((67, F67) :: []) [] [] (.keep [1, 2] (.two .none (.leaf) (.one (.loop ⟨[(0, .s (.ref 0 [])), (6, .v (.int .i64))], [(0, (.osl (.int .i64)))]⟩ (.x 0 ⟨[(0, .s (.ref 0 []))], [(0, (.osl (.int .i64)))]⟩) (.two .none (.two .none (.leaf) (.two .none (.leaf) (.leaf))) (.two .none (.one (.two .none (.leaf) (.one (.keep [6] (.loop ⟨[(0, .s (.ref 0 [])), (7, .v (.int .i64))], [(0, (.osl (.int .i64)))]⟩ (.x 2 ⟨[(0, .s (.ref 0 []))], [(0, (.osl (.int .i64)))]⟩) (.two (.xr [7] ⟨[(0, .s (.ref 0 []))], [(0, (.osl (.int .i64)))]⟩) (.two .none (.draw [⟨0, [16], [7], [], [], []⟩, ⟨1, [17], [1], [], [], []⟩, ⟨2, [18], [16, 17], [0, 1], [], []⟩, ⟨3, [19], [18], [2], [], []⟩, ⟨4, [20], [0, 19], [3], [500000], []⟩, ⟨5, [21], [7, 19], [3], [], []⟩, ⟨6, [22], [20, 21, 19], [4, 5, 3], [0], []⟩, ⟨7, [23], [22, 19], [6, 3], [0], []⟩, ⟨8, [24], [0, 19], [3], [500000], []⟩, ⟨9, [25], [7, 19], [3], [], []⟩, ⟨10, [26], [25, 19], [9, 3], [], []⟩, ⟨11, [27], [24, 26, 19], [8, 10, 3], [0], []⟩, ⟨12, [28], [27, 19], [11, 3], [0], []⟩, ⟨13, [29], [23, 28, 19], [7, 12, 3, 3], [], []⟩, ⟨14, [30], [19, 29], [3, 13], [], []⟩]) (.two .none (.leaf) (.leaf))) (.two .none (.one (.draw [⟨0, [33], [0], [], [500000], []⟩, ⟨1, [34], [7], [], [], []⟩, ⟨2, [35], [0], [], [500000], []⟩, ⟨3, [36], [7], [], [], []⟩, ⟨4, [37], [36], [3], [], []⟩, ⟨5, [38], [0], [], [500000], []⟩, ⟨6, [39], [7], [], [], []⟩, ⟨7, [40], [39], [6], [], []⟩, ⟨8, [41], [38, 40], [5, 7], [0], []⟩, ⟨9, [42], [41], [8], [0], []⟩, ⟨10, [43], [0], [], [500000], []⟩, ⟨11, [44], [7], [], [], []⟩, ⟨12, [45], [43, 44], [10, 11], [0], []⟩, ⟨13, [46], [45], [12], [0], []⟩, ⟨14, [47], [33, 34], [0, 1, 0, 1, 5, 6, 7, 8, 9, 13], [0], []⟩, ⟨15, [], [47, 42], [14, 9, 0, 1, 5, 6, 7, 8, 9, 13], [0], [0]⟩, ⟨16, [48], [35, 37], [2, 4, 0, 1, 2, 3, 4, 5, 6, 7, 8, 9, 10, 11, 12, 13, 14, 15], [0], []⟩, ⟨17, [], [48, 46], [16, 13, 15, 0, 1, 2, 3, 4, 5, 6, 7, 8, 9, 10, 11, 12, 13, 14, 15], [0], [0]⟩])) (.leaf)))))))) (.leaf))))))) Try.func77 (by kernel_rfl) (by kernel_rfl) (by kernel_rfl) Try.call77 (tbl_cons ok67 tbl_nil) (by intro a; kernel_rfl)
noncomputable def F87 : Fun := ⟨87, [.m (.osl (.int .i64)), .v (.int .i64), .v (.int .i64), .v (.int .i64)], [], d_slices_siftDownOrdered_int⟩
theorem ok87 : OkFun E F87 :=
  OkFun.of (fn := Try.f87) (rs := []) ((67, F67) :: []) [] [] (.keep [1, 2, 3] (.two .none (.leaf) (.one (.loop ⟨[(0, .s (.ref 0 [])), (8, .v (.int .i64))], [(0, (.osl (.int .i64)))]⟩ (.xr 0 ⟨[(0, .s (.ref 0 []))], [(0, (.osl (.int .i64)))]⟩) (.one (.two .none (.leaf) (.two .none (.two .none (.leaf) (.two .none (.leaf) (.leaf))) (.two (.x [8] ⟨[(0, .s (.ref 0 [])), (9, .v (.int .i64))], [(0, (.osl (.int .i64)))]⟩) (.two (.x [9] ⟨[(0, .s (.ref 0 [])), (36, .v .bool)], [(0, (.osl (.int .i64)))]⟩) (.draw [⟨0, [17], [9], [], [], []⟩, ⟨1, [18], [17], [0], [], []⟩, ⟨2, [19], [2], [], [], []⟩, ⟨3, [20], [18, 19], [1, 2], [], []⟩, ⟨4, [21], [20], [3], [], []⟩, ⟨5, [22], [0, 21], [4], [500000], []⟩, ⟨6, [23], [3, 21], [4], [], []⟩, ⟨7, [24], [9, 21], [4], [], []⟩, ⟨8, [25], [23, 24, 21], [6, 7, 4], [], []⟩, ⟨9, [26], [22, 25, 21], [5, 8, 4], [0], []⟩, ⟨10, [27], [26, 21], [9, 4], [0], []⟩, ⟨11, [28], [0, 21], [4], [500000], []⟩, ⟨12, [29], [3, 21], [4], [], []⟩, ⟨13, [30], [9, 21], [4], [], []⟩, ⟨14, [31], [29, 30, 21], [12, 13, 4], [], []⟩, ⟨15, [32], [31, 21], [14, 4], [], []⟩, ⟨16, [33], [28, 32, 21], [11, 15, 4], [0], []⟩, ⟨17, [34], [33, 21], [16, 4], [0], []⟩, ⟨18, [35], [27, 34, 21], [10, 17, 4, 4], [], []⟩, ⟨19, [36], [21, 35], [4, 18], [], []⟩]) (.two .none (.leaf) (.leaf))) (.two .none (.two .none (.draw [⟨0, [39], [0], [], [500000], []⟩, ⟨1, [40], [3], [], [], []⟩, ⟨2, [41], [8], [], [], []⟩, ⟨3, [42], [40, 41], [1, 2], [], []⟩, ⟨4, [43], [39, 42], [0, 3], [0], []⟩, ⟨5, [44], [43], [4], [0], []⟩, ⟨6, [45], [0], [], [500000], []⟩, ⟨7, [46], [3], [], [], []⟩, ⟨8, [47], [9], [], [], []⟩, ⟨9, [48], [46, 47], [7, 8], [], []⟩, ⟨10, [49], [45, 48], [6, 9], [0], []⟩, ⟨11, [50], [49], [10], [0], []⟩, ⟨12, [51], [44, 50], [5, 11], [], []⟩, ⟨13, [52], [51], [12], [], []⟩]) (.two .none (.leaf) (.leaf))) (.two .none (.draw [⟨0, [53], [0], [], [500000], []⟩, ⟨1, [54], [3], [], [], []⟩, ⟨2, [55], [8], [], [], []⟩, ⟨3, [56], [54, 55], [1, 2], [], []⟩, ⟨4, [57], [0], [], [500000], []⟩, ⟨5, [58], [3], [], [], []⟩, ⟨6, [59], [9], [], [], []⟩, ⟨7, [60], [58, 59], [5, 6], [], []⟩, ⟨8, [61], [0], [], [500000], []⟩, ⟨9, [62], [3], [], [], []⟩, ⟨10, [63], [9], [], [], []⟩, ⟨11, [64], [62, 63], [9, 10], [], []⟩, ⟨12, [65], [61, 64], [8, 11], [0], []⟩, ⟨13, [66], [65], [12], [0], []⟩, ⟨14, [67], [0], [], [500000], []⟩, ⟨15, [68], [3], [], [], []⟩, ⟨16, [69], [8], [], [], []⟩, ⟨17, [70], [68, 69], [15, 16], [], []⟩, ⟨18, [71], [67, 70], [14, 17], [0], []⟩, ⟨19, [72], [71], [18], [0], []⟩, ⟨20, [73], [53, 56], [0, 3, 0, 1, 2, 3, 8, 9, 10, 11, 12, 13, 19], [0], []⟩, ⟨21, [], [73, 66], [20, 13, 0, 1, 2, 3, 8, 9, 10, 11, 12, 13, 19], [0], [0]⟩, ⟨22, [74], [57, 60], [4, 7, 0, 1, 2, 3, 4, 5, 6, 7, 8, 9, 10, 11, 12, 13, 14, 15, 16, 17, 18, 19, 20, 21], [0], []⟩, ⟨23, [], [74, 72], [22, 19, 21, 0, 1, 2, 3, 4, 5, 6, 7, 8, 9, 10, 11, 12, 13, 14, 15, 16, 17, 18, 19, 20, 21], [0], [0]⟩]) (.leaf))))))))))) Try.func87 (by kernel_rfl) (by kernel_rfl) (by kernel_rfl) Try.call87 (tbl_cons ok67 tbl_nil) (by intro a; kernel_rfl)
noncomputable def F78 : Fun := ⟨78, [.m (.osl (.int .i64)), .v (.int .i64), .v (.int .i64)], [], d_slices_heapSortOrdered_int⟩
theorem ok78 : OkFun E F78 :=
  OkFun.of (fn := Try.f78) (rs := []) ((87, F87) :: []) [] [] (.keep [1, 2] (.two .none (.leaf) (.two .none (.leaf) (.two .none (.leaf) (.two .none (.two .none (.leaf) (.one (.keep [6, 7, 8] (.loop ⟨[(0, .s (.ref 0 [])), (9, .v (.int .i64))], [(0, (.osl (.int .i64)))]⟩ (.x 0 ⟨[(0, .s (.ref 0 []))], [(0, (.osl (.int .i64)))]⟩) (.two .none (.two .none (.leaf) (.two .none (.leaf) (.leaf))) (.two .none (.one (.leaf)) (.leaf))))))) (.two .none (.leaf) (.one (.keep [6, 7] (.loop ⟨[(0, .s (.ref 0 [])), (10, .v (.int .i64))], [(0, (.osl (.int .i64)))]⟩ (.x 2 ⟨[(0, .s (.ref 0 []))], [(0, (.osl (.int .i64)))]⟩) (.two .none (.two .none (.leaf) (.two .none (.leaf) (.leaf))) (.two .none (.one (.two .none (.draw [⟨0, [33], [0], [], [500000], []⟩, ⟨1, [34], [6], [], [], []⟩, ⟨2, [35], [0], [], [500000], []⟩, ⟨3, [36], [6], [], [], []⟩, ⟨4, [37], [10], [], [], []⟩, ⟨5, [38], [36, 37], [3, 4], [], []⟩, ⟨6, [39], [0], [], [500000], []⟩, ⟨7, [40], [6], [], [], []⟩, ⟨8, [41], [10], [], [], []⟩, ⟨9, [42], [40, 41], [7, 8], [], []⟩, ⟨10, [43], [39, 42], [6, 9], [0], []⟩, ⟨11, [44], [43], [10], [0], []⟩, ⟨12, [45], [0], [], [500000], []⟩, ⟨13, [46], [6], [], [], []⟩, ⟨14, [47], [45, 46], [12, 13], [0], []⟩, ⟨15, [48], [47], [14], [0], []⟩, ⟨16, [49], [33, 34], [0, 1, 0, 1, 6, 7, 8, 9, 10, 11, 15], [0], []⟩, ⟨17, [], [49, 44], [16, 11, 0, 1, 6, 7, 8, 9, 10, 11, 15], [0], [0]⟩, ⟨18, [50], [35, 38], [2, 5, 0, 1, 2, 3, 4, 5, 6, 7, 8, 9, 10, 11, 12, 13, 14, 15, 16, 17], [0], []⟩, ⟨19, [], [50, 48], [18, 15, 17, 0, 1, 2, 3, 4, 5, 6, 7, 8, 9, 10, 11, 12, 13, 14, 15, 16, 17], [0], [0]⟩]) (.leaf))) (.leaf)))))))))))) Try.func78 (by kernel_rfl) (by kernel_rfl) (by kernel_rfl) Try.call78 (tbl_cons ok87 tbl_nil) (by intro a; kernel_rfl)
noncomputable def F88 : Fun := ⟨88, [.v (.int .i64)], [(.int .u64)], d_slices_nextPowerOfTwo⟩
theorem ok88 : OkFun E F88 :=
  OkFun.of (fn := Try.f88) (rs := [.tmp 2]) ((76, F76) :: []) [] [] (.keep [0] (.two .none (.leaf) (.two .none (.leaf) (.leaf)))) Try.func88 (by kernel_rfl) (by kernel_rfl) (by kernel_rfl) Try.call88 (tbl_cons ok76 tbl_nil) (by intro a; kernel_rfl)
noncomputable def F89 : Fun := ⟨89, [.m (.optr (.int .u64))], [(.int .u64)], d_slices_xorshift_Next⟩
theorem ok89 : OkFun E F89 :=
  OkFun.of (fn := Try.f89) (rs := [.tmp 2]) ([]) [] [] (.two .none (.leaf) (.two .none (.draw [⟨0, [3], [0], [], [500000], []⟩, ⟨1, [4], [3], [0], [0], []⟩, ⟨2, [5], [4], [1], [0], []⟩, ⟨3, [6], [0], [], [500000], []⟩, ⟨4, [7], [6], [3], [0], []⟩, ⟨5, [8], [7], [4], [0], []⟩, ⟨6, [9], [8], [5], [], []⟩, ⟨7, [10], [5, 9], [2, 6], [], []⟩, ⟨8, [11], [3], [0, 0, 1, 2, 3, 4, 5, 6, 7], [0], []⟩, ⟨9, [], [11, 10], [8, 7, 0, 1, 2, 3, 4, 5, 6, 7], [0], [0]⟩]) (.two .none (.draw [⟨0, [12], [0], [], [500000], []⟩, ⟨1, [13], [12], [0], [0], []⟩, ⟨2, [14], [13], [1], [0], []⟩, ⟨3, [15], [0], [], [500000], []⟩, ⟨4, [16], [15], [3], [0], []⟩, ⟨5, [17], [16], [4], [0], []⟩, ⟨6, [18], [17], [5], [], []⟩, ⟨7, [19], [14, 18], [2, 6], [], []⟩, ⟨8, [20], [12], [0, 0, 1, 2, 3, 4, 5, 6, 7], [0], []⟩, ⟨9, [], [20, 19], [8, 7, 0, 1, 2, 3, 4, 5, 6, 7], [0], [0]⟩]) (.two .none (.draw [⟨0, [21], [0], [], [500000], []⟩, ⟨1, [22], [21], [0], [0], []⟩, ⟨2, [23], [22], [1], [0], []⟩, ⟨3, [24], [0], [], [500000], []⟩, ⟨4, [25], [24], [3], [0], []⟩, ⟨5, [26], [25], [4], [0], []⟩, ⟨6, [27], [26], [5], [], []⟩, ⟨7, [28], [23, 27], [2, 6], [], []⟩, ⟨8, [29], [21], [0, 0, 1, 2, 3, 4, 5, 6, 7], [0], []⟩, ⟨9, [], [29, 28], [8, 7, 0, 1, 2, 3, 4, 5, 6, 7], [0], [0]⟩]) (.two .none (.leaf) (.leaf)))))) Try.func89 (by kernel_rfl) (by kernel_rfl) (by kernel_rfl) Try.call89 tbl_nil (by intro a; kernel_rfl)
noncomputable def F79 : Fun := ⟨79, [.m (.osl (.int .i64)), .v (.int .i64), .v (.int .i64)], [], d_slices_breakPatternsOrdered_int⟩
theorem ok79 : OkFun E F79 :=
  OkFun.of (fn := Try.f79) (rs := []) ((89, F89) :: (88, F88) :: []) [(7, (.int .u64))] [] (.keep [1, 2] (.two .none (.leaf) (.two .none (.leaf) (.two .none (.two .none (.leaf) (.two .none (.leaf) (.two .none (.leaf) (.one (.keep [6, 8] (.loop ⟨[(0, .s (.ref 0 [])), (7, .s (.ref 7 [])), (9, .v (.int .i64))], [(0, (.osl (.int .i64))), (7, (.optr (.int .u64)))]⟩ (.x 0 ⟨[(0, .s (.ref 0 []))], [(0, (.osl (.int .i64)))]⟩) (.two .none (.two .none (.leaf) (.two .none (.leaf) (.leaf))) (.two (.x [9] ⟨[(0, .s (.ref 0 [])), (7, .s (.ref 7 []))], [(0, (.osl (.int .i64))), (7, (.optr (.int .u64)))]⟩) (.one (.two .none (.leaf) (.two (.x [] ⟨[(0, .s (.ref 0 [])), (7, .s (.ref 7 [])), (10, .v (.int .i64))], [(0, (.osl (.int .i64))), (7, (.optr (.int .u64)))]⟩) (.two .none (.leaf) (.two .none (.leaf) (.leaf))) (.draw [⟨0, [47], [0], [], [500000], []⟩, ⟨1, [48], [9], [], [], []⟩, ⟨2, [49], [0], [], [500000], []⟩, ⟨3, [50], [1], [], [], []⟩, ⟨4, [51], [10], [], [], []⟩, ⟨5, [52], [50, 51], [3, 4], [], []⟩, ⟨6, [53], [0], [], [500000], []⟩, ⟨7, [54], [1], [], [], []⟩, ⟨8, [55], [10], [], [], []⟩, ⟨9, [56], [54, 55], [7, 8], [], []⟩, ⟨10, [57], [53, 56], [6, 9], [0], []⟩, ⟨11, [58], [57], [10], [0], []⟩, ⟨12, [59], [0], [], [500000], []⟩, ⟨13, [60], [9], [], [], []⟩, ⟨14, [61], [59, 60], [12, 13], [0], []⟩, ⟨15, [62], [61], [14], [0], []⟩, ⟨16, [63], [47, 48], [0, 1, 0, 1, 6, 7, 8, 9, 10, 11, 15], [0], []⟩, ⟨17, [], [63, 58], [16, 11, 0, 1, 6, 7, 8, 9, 10, 11, 15], [0], [0]⟩, ⟨18, [64], [49, 52], [2, 5, 0, 1, 2, 3, 4, 5, 6, 7, 8, 9, 10, 11, 12, 13, 14, 15, 16, 17], [0], []⟩, ⟨19, [], [64, 62], [18, 15, 17, 0, 1, 2, 3, 4, 5, 6, 7, 8, 9, 10, 11, 12, 13, 14, 15, 16, 17], [0], [0]⟩])))) (.leaf))))))))) (.leaf))))) Try.func79 (by kernel_rfl) (by kernel_rfl) (by kernel_rfl) Try.call79 (tbl_cons ok89 (tbl_cons ok88 tbl_nil)) (by intro a; kernel_rfl)
noncomputable def F92 : Fun := ⟨92, [.v (.slc .bor (.int .i64)), .v (.int .i64), .v (.int .i64), .m (.optr (.int .i64))], [(.int .i64), (.int .i64)], d_slices_order2Ordered_int⟩
theorem ok92 : OkFun E F92 :=
  OkFun.of (fn := Try.f92) (rs := [.tmp 8, .tmp 9]) ((67, F67) :: []) [] [] (.keep [0, 1, 2] (.two .none (.leaf) (.two .none (.two .none (.draw [⟨0, [10], [0], [], [], []⟩, ⟨1, [11], [2], [], [], []⟩, ⟨2, [12], [10, 11], [0, 1], [], []⟩, ⟨3, [13], [12], [2], [], []⟩, ⟨4, [14], [0], [], [], []⟩, ⟨5, [15], [1], [], [], []⟩, ⟨6, [16], [14, 15], [4, 5], [], []⟩, ⟨7, [17], [16], [6], [], []⟩, ⟨8, [18], [13, 17], [3, 7], [], []⟩]) (.two .none (.two .none (.leaf) (.two .none (.leaf) (.leaf))) (.leaf))) (.two .none (.leaf) (.leaf))))) Try.func92 (by kernel_rfl) (by kernel_rfl) (by kernel_rfl) Try.call92 (tbl_cons ok67 tbl_nil) (by intro a; kernel_rfl)
noncomputable def F91 : Fun := ⟨91, [.v (.slc .bor (.int .i64)), .v (.int .i64), .v (.int .i64), .v (.int .i64), .m (.optr (.int .i64))], [(.int .i64)], d_slices_medianOrdered_int⟩
theorem ok91 : OkFun E F91 :=
  OkFun.of (fn := Try.f91) (rs := [.tmp 10]) ((92, F92) :: []) [] [] (.keep [0] (.two .none (.leaf) (.two .none (.leaf) (.two .none (.leaf) (.two .none (.leaf) (.two .none (.leaf) (.leaf))))))) Try.func91 (by kernel_rfl) (by kernel_rfl) (by kernel_rfl) Try.call91 (tbl_cons ok92 tbl_nil) (by intro a; kernel_rfl)
noncomputable def F90 : Fun := ⟨90, [.v (.slc .bor (.int .i64)), .v (.int .i64), .m (.optr (.int .i64))], [(.int .i64)], d_slices_medianAdjacentOrdered_int⟩
theorem ok90 : OkFun E F90 :=
  OkFun.of (fn := Try.f90) (rs := [.tmp 6]) ((91, F91) :: []) [] [] (.keep [0, 1] (.two .none (.leaf) (.two .none (.leaf) (.leaf)))) Try.func90 (by kernel_rfl) (by kernel_rfl) (by kernel_rfl) Try.call90 (tbl_cons ok91 tbl_nil) (by intro a; kernel_rfl)
noncomputable def F80 : Fun := ⟨80, [.v (.slc .bor (.int .i64)), .v (.int .i64), .v (.int .i64)], [(.int .i64), (.int .i64)], d_slices_choosePivotOrdered_int⟩
theorem ok80 : OkFun E F80 :=
  OkFun.of (fn := Try.f80) (rs := [.tmp 6, .tmp 7]) ((91, F91) :: (90, F90) :: []) [(9, (.int .i64))] [] (.keep [0, 1, 2] (.two .none (.leaf) (.two .none (.leaf) (.two .none (.leaf) (.two .none (.leaf) (.two .none (.leaf) (.two .none (.leaf) (.two (.x [] ⟨[(9, .s (.ref 9 [])), (11, .v (.int .i64))], [(9, (.optr (.int .i64)))]⟩) (.two .none (.leaf) (.two .none (.two (.x [] ⟨[(9, .s (.ref 9 [])), (10, .v (.int .i64)), (11, .v (.int .i64)), (12, .v (.int .i64))], [(9, (.optr (.int .i64)))]⟩) (.two .none (.leaf) (.two .none (.two .none (.leaf) (.two .none (.leaf) (.leaf))) (.leaf))) (.leaf)) (.leaf))) (.two .none (.leaf) (.one (.two .none (.leaf) (.two .none (.two .none (.leaf) (.leaf)) (.two .none (.leaf) (.two .none (.two .none (.leaf) (.leaf)) (.two .none (.leaf) (.leaf)))))))))))))))) Try.func80 (by kernel_rfl) (by kernel_rfl) (by kernel_rfl) Try.call80 (tbl_cons ok91 (tbl_cons ok90 tbl_nil)) (by intro a; kernel_rfl)
noncomputable def F81 : Fun := ⟨81, [.m (.osl (.int .i64)), .v (.int .i64), .v (.int .i64)], [], d_slices_reverseRangeOrdered_int⟩
theorem ok81 : OkFun E F81 :=
  OkFun.of (fn := Try.f81) (rs := []) ([]) [] [] (.keep [1, 2] (.two .none (.leaf) (.two .none (.leaf) (.one (.loop ⟨[(0, .s (.ref 0 [])), (6, .v (.int .i64)), (7, .v (.int .i64))], [(0, (.osl (.int .i64)))]⟩ (.x 0 ⟨[(0, .s (.ref 0 []))], [(0, (.osl (.int .i64)))]⟩) (.two .none (.two .none (.leaf) (.two .none (.leaf) (.leaf))) (.one (.two .none (.draw [⟨0, [14], [0], [], [500000], []⟩, ⟨1, [15], [6], [], [], []⟩, ⟨2, [16], [0], [], [500000], []⟩, ⟨3, [17], [7], [], [], []⟩, ⟨4, [18], [0], [], [500000], []⟩, ⟨5, [19], [7], [], [], []⟩, ⟨6, [20], [18, 19], [4, 5], [0], []⟩, ⟨7, [21], [20], [6], [0], []⟩, ⟨8, [22], [0], [], [500000], []⟩, ⟨9, [23], [6], [], [], []⟩, ⟨10, [24], [22, 23], [8, 9], [0], []⟩, ⟨11, [25], [24], [10], [0], []⟩, ⟨12, [26], [14, 15], [0, 1, 0, 1, 4, 5, 6, 7, 11], [0], []⟩, ⟨13, [], [26, 21], [12, 7, 0, 1, 4, 5, 6, 7, 11], [0], [0]⟩, ⟨14, [27], [16, 17], [2, 3, 0, 1, 2, 3, 4, 5, 6, 7, 8, 9, 10, 11, 12, 13], [0], []⟩, ⟨15, [], [27, 25], [14, 11, 13, 0, 1, 2, 3, 4, 5, 6, 7, 8, 9, 10, 11, 12, 13], [0], [0]⟩]) (.two .none (.leaf) (.leaf)))))))))) Try.func81 (by kernel_rfl) (by kernel_rfl) (by kernel_rfl) Try.call81 tbl_nil (by intro a; kernel_rfl)
noncomputable def F82 : Fun := ⟨82, [.m (.osl (.int .i64)), .v (.int .i64), .v (.int .i64)], [.bool], d_slices_partialInsertionSortOrdered_int⟩
theorem ok82 : OkFun E F82 :=
  OkFun.of (fn := Try.f82) (rs := [.tmp 6]) ((67, F67) :: []) [] [] (.keep [1, 2] (.two .none (.leaf) (.two .none (.leaf) (.two .none (.two .none (.leaf) (.one (.loop ⟨[(0, .s (.ref 0 [])), (7, .v (.int .i64)), (8, .v (.int .i64))], [(0, (.osl (.int .i64)))]⟩ (.xr 0 ⟨[(0, .s (.ref 0 []))], [(0, (.osl (.int .i64)))]⟩) (.two .none (.two .none (.leaf) (.two .none (.leaf) (.leaf))) (.two (.xr [8] ⟨[(0, .s (.ref 0 [])), (7, .v (.int .i64))], [(0, (.osl (.int .i64)))]⟩) (.one (.two .none (.one (.loop ⟨[(0, .s (.ref 0 [])), (7, .v (.int .i64))], [(0, (.osl (.int .i64)))]⟩ (.x 2 ⟨[(0, .s (.ref 0 [])), (7, .v (.int .i64))], [(0, (.osl (.int .i64)))]⟩) (.two (.xr [7] ⟨[(0, .s (.ref 0 []))], [(0, (.osl (.int .i64)))]⟩) (.two .none (.draw [⟨0, [17], [7], [], [], []⟩, ⟨1, [18], [2], [], [], []⟩, ⟨2, [19], [17, 18], [0, 1], [], []⟩, ⟨3, [20], [19], [2], [], []⟩, ⟨4, [21], [0, 20], [3], [500000], []⟩, ⟨5, [22], [7, 20], [3], [], []⟩, ⟨6, [23], [21, 22, 20], [4, 5, 3], [0], []⟩, ⟨7, [24], [23, 20], [6, 3], [0], []⟩, ⟨8, [25], [0, 20], [3], [500000], []⟩, ⟨9, [26], [7, 20], [3], [], []⟩, ⟨10, [27], [26, 20], [9, 3], [], []⟩, ⟨11, [28], [25, 27, 20], [8, 10, 3], [0], []⟩, ⟨12, [29], [28, 20], [11, 3], [0], []⟩, ⟨13, [30], [24, 29, 20], [7, 12, 3, 3], [], []⟩, ⟨14, [31], [30, 20], [13, 3], [], []⟩, ⟨15, [32], [20, 31], [3, 14], [], []⟩]) (.two .none (.leaf) (.leaf))) (.one (.leaf))))) (.two .none (.two .none (.leaf) (.two .none (.two .none (.leaf) (.leaf)) (.leaf))) (.two .none (.two .none (.leaf) (.two .none (.two .none (.leaf) (.leaf)) (.leaf))) (.two .none (.draw [⟨0, [42], [0], [], [500000], []⟩, ⟨1, [43], [7], [], [], []⟩, ⟨2, [44], [0], [], [500000], []⟩, ⟨3, [45], [7], [], [], []⟩, ⟨4, [46], [45], [3], [], []⟩, ⟨5, [47], [0], [], [500000], []⟩, ⟨6, [48], [7], [], [], []⟩, ⟨7, [49], [48], [6], [], []⟩, ⟨8, [50], [47, 49], [5, 7], [0], []⟩, ⟨9, [51], [50], [8], [0], []⟩, ⟨10, [52], [0], [], [500000], []⟩, ⟨11, [53], [7], [], [], []⟩, ⟨12, [54], [52, 53], [10, 11], [0], []⟩, ⟨13, [55], [54], [12], [0], []⟩, ⟨14, [56], [42, 43], [0, 1, 0, 1, 5, 6, 7, 8, 9, 13], [0], []⟩, ⟨15, [], [56, 51], [14, 9, 0, 1, 5, 6, 7, 8, 9, 13], [0], [0]⟩, ⟨16, [57], [44, 46], [2, 4, 0, 1, 2, 3, 4, 5, 6, 7, 8, 9, 10, 11, 12, 13, 14, 15], [0], []⟩, ⟨17, [], [57, 55], [16, 13, 15, 0, 1, 2, 3, 4, 5, 6, 7, 8, 9, 10, 11, 12, 13, 14, 15], [0], [0]⟩]) (.two (.x [7] ⟨[(0, .s (.ref 0 []))], [(0, (.osl (.int .i64)))]⟩) (.two .none (.leaf) (.two .none (.two .none (.leaf) (.one (.loop ⟨[(0, .s (.ref 0 [])), (9, .v (.int .i64))], [(0, (.osl (.int .i64)))]⟩ (.x 4 ⟨[(0, .s (.ref 0 []))], [(0, (.osl (.int .i64)))]⟩) (.two .none (.two .none (.leaf) (.two .none (.leaf) (.leaf))) (.two .none (.one (.two .none (.two .none (.draw [⟨0, [68], [0], [], [500000], []⟩, ⟨1, [69], [9], [], [], []⟩, ⟨2, [70], [68, 69], [0, 1], [0], []⟩, ⟨3, [71], [70], [2], [0], []⟩, ⟨4, [72], [0], [], [500000], []⟩, ⟨5, [73], [9], [], [], []⟩, ⟨6, [74], [73], [5], [], []⟩, ⟨7, [75], [72, 74], [4, 6], [0], []⟩, ⟨8, [76], [75], [7], [0], []⟩, ⟨9, [77], [71, 76], [3, 8], [], []⟩, ⟨10, [78], [77], [9], [], []⟩]) (.two .none (.leaf) (.leaf))) (.draw [⟨0, [79], [0], [], [500000], []⟩, ⟨1, [80], [9], [], [], []⟩, ⟨2, [81], [0], [], [500000], []⟩, ⟨3, [82], [9], [], [], []⟩, ⟨4, [83], [82], [3], [], []⟩, ⟨5, [84], [0], [], [500000], []⟩, ⟨6, [85], [9], [], [], []⟩, ⟨7, [86], [85], [6], [], []⟩, ⟨8, [87], [84, 86], [5, 7], [0], []⟩, ⟨9, [88], [87], [8], [0], []⟩, ⟨10, [89], [0], [], [500000], []⟩, ⟨11, [90], [9], [], [], []⟩, ⟨12, [91], [89, 90], [10, 11], [0], []⟩, ⟨13, [92], [91], [12], [0], []⟩, ⟨14, [93], [79, 80], [0, 1, 0, 1, 5, 6, 7, 8, 9, 13], [0], []⟩, ⟨15, [], [93, 88], [14, 9, 0, 1, 5, 6, 7, 8, 9, 13], [0], [0]⟩, ⟨16, [94], [81, 83], [2, 4, 0, 1, 2, 3, 4, 5, 6, 7, 8, 9, 10, 11, 12, 13, 14, 15], [0], []⟩, ⟨17, [], [94, 92], [16, 13, 15, 0, 1, 2, 3, 4, 5, 6, 7, 8, 9, 10, 11, 12, 13, 14, 15], [0], [0]⟩]))) (.leaf)))))) (.leaf))) (.two .none (.leaf) (.two .none (.two .none (.leaf) (.one (.keep [7] (.loop ⟨[(0, .s (.ref 0 [])), (10, .v (.int .i64))], [(0, (.osl (.int .i64)))]⟩ (.x 6 ⟨[(0, .s (.ref 0 []))], [(0, (.osl (.int .i64)))]⟩) (.two .none (.two .none (.leaf) (.two .none (.leaf) (.leaf))) (.two .none (.one (.two .none (.two .none (.draw [⟨0, [106], [0], [], [500000], []⟩, ⟨1, [107], [10], [], [], []⟩, ⟨2, [108], [106, 107], [0, 1], [0], []⟩, ⟨3, [109], [108], [2], [0], []⟩, ⟨4, [110], [0], [], [500000], []⟩, ⟨5, [111], [10], [], [], []⟩, ⟨6, [112], [111], [5], [], []⟩, ⟨7, [113], [110, 112], [4, 6], [0], []⟩, ⟨8, [114], [113], [7], [0], []⟩, ⟨9, [115], [109, 114], [3, 8], [], []⟩, ⟨10, [116], [115], [9], [], []⟩]) (.two .none (.leaf) (.leaf))) (.draw [⟨0, [117], [0], [], [500000], []⟩, ⟨1, [118], [10], [], [], []⟩, ⟨2, [119], [0], [], [500000], []⟩, ⟨3, [120], [10], [], [], []⟩, ⟨4, [121], [120], [3], [], []⟩, ⟨5, [122], [0], [], [500000], []⟩, ⟨6, [123], [10], [], [], []⟩, ⟨7, [124], [123], [6], [], []⟩, ⟨8, [125], [122, 124], [5, 7], [0], []⟩, ⟨9, [126], [125], [8], [0], []⟩, ⟨10, [127], [0], [], [500000], []⟩, ⟨11, [128], [10], [], [], []⟩, ⟨12, [129], [127, 128], [10, 11], [0], []⟩, ⟨13, [130], [129], [12], [0], []⟩, ⟨14, [131], [117, 118], [0, 1, 0, 1, 5, 6, 7, 8, 9, 13], [0], []⟩, ⟨15, [], [131, 126], [14, 9, 0, 1, 5, 6, 7, 8, 9, 13], [0], [0]⟩, ⟨16, [132], [119, 121], [2, 4, 0, 1, 2, 3, 4, 5, 6, 7, 8, 9, 10, 11, 12, 13, 14, 15], [0], []⟩, ⟨17, [], [132, 130], [16, 13, 15, 0, 1, 2, 3, 4, 5, 6, 7, 8, 9, 10, 11, 12, 13, 14, 15], [0], [0]⟩]))) (.leaf))))))) (.leaf))))))))) (.leaf)))))) (.two .none (.leaf) (.leaf)))))) Try.func82 (by kernel_rfl) (by kernel_rfl) (by kernel_rfl) Try.call82 (tbl_cons ok67 tbl_nil) (by intro a; kernel_rfl)
noncomputable def F83 : Fun := ⟨83, [.m (.osl (.int .i64)), .v (.int .i64), .v (.int .i64), .v (.int .i64)], [(.int .i64)], d_slices_partitionEqualOrdered_int⟩
theorem ok83 : OkFun E F83 :=
  OkFun.of (fn := Try.f83) (rs := [.tmp 8]) ((67, F67) :: []) [] [] (.keep [1, 2, 3] (.two .none (.leaf) (.two .none (.draw [⟨0, [11], [0], [], [500000], []⟩, ⟨1, [12], [1], [], [], []⟩, ⟨2, [13], [0], [], [500000], []⟩, ⟨3, [14], [3], [], [], []⟩, ⟨4, [15], [0], [], [500000], []⟩, ⟨5, [16], [3], [], [], []⟩, ⟨6, [17], [15, 16], [4, 5], [0], []⟩, ⟨7, [18], [17], [6], [0], []⟩, ⟨8, [19], [0], [], [500000], []⟩, ⟨9, [20], [1], [], [], []⟩, ⟨10, [21], [19, 20], [8, 9], [0], []⟩, ⟨11, [22], [21], [10], [0], []⟩, ⟨12, [23], [11, 12], [0, 1, 0, 1, 4, 5, 6, 7, 11], [0], []⟩, ⟨13, [], [23, 18], [12, 7, 0, 1, 4, 5, 6, 7, 11], [0], [0]⟩, ⟨14, [24], [13, 14], [2, 3, 0, 1, 2, 3, 4, 5, 6, 7, 8, 9, 10, 11, 12, 13], [0], []⟩, ⟨15, [], [24, 22], [14, 11, 13, 0, 1, 2, 3, 4, 5, 6, 7, 8, 9, 10, 11, 12, 13], [0], [0]⟩]) (.two .none (.leaf) (.two .none (.one (.loop ⟨[(0, .s (.ref 0 [])), (9, .v (.int .i64)), (10, .v (.int .i64))], [(0, (.osl (.int .i64)))]⟩ (.x 0 ⟨[(0, .s (.ref 0 [])), (9, .v (.int .i64))], [(0, (.osl (.int .i64)))]⟩) (.one (.two .none (.one (.keep [10] (.loop ⟨[(0, .s (.ref 0 [])), (9, .v (.int .i64))], [(0, (.osl (.int .i64)))]⟩ (.x 2 ⟨[(0, .s (.ref 0 [])), (9, .v (.int .i64))], [(0, (.osl (.int .i64)))]⟩) (.two (.xr [9] ⟨[(0, .s (.ref 0 []))], [(0, (.osl (.int .i64)))]⟩) (.two .none (.draw [⟨0, [29], [9], [], [], []⟩, ⟨1, [30], [10], [], [], []⟩, ⟨2, [31], [29, 30], [0, 1], [], []⟩, ⟨3, [32], [31], [2], [], []⟩, ⟨4, [33], [0, 32], [3], [500000], []⟩, ⟨5, [34], [1, 32], [3], [], []⟩, ⟨6, [35], [33, 34, 32], [4, 5, 3], [0], []⟩, ⟨7, [36], [35, 32], [6, 3], [0], []⟩, ⟨8, [37], [0, 32], [3], [500000], []⟩, ⟨9, [38], [9, 32], [3], [], []⟩, ⟨10, [39], [37, 38, 32], [8, 9, 3], [0], []⟩, ⟨11, [40], [39, 32], [10, 3], [0], []⟩, ⟨12, [41], [36, 40, 32], [7, 11, 3, 3], [], []⟩, ⟨13, [42], [41, 32], [12, 3], [], []⟩, ⟨14, [43], [32, 42], [3, 13], [], []⟩]) (.two .none (.leaf) (.leaf))) (.one (.leaf)))))) (.two .none (.one (.keep [9] (.loop ⟨[(0, .s (.ref 0 [])), (10, .v (.int .i64))], [(0, (.osl (.int .i64)))]⟩ (.x 4 ⟨[(0, .s (.ref 0 [])), (10, .v (.int .i64))], [(0, (.osl (.int .i64)))]⟩) (.two (.xr [10] ⟨[(0, .s (.ref 0 []))], [(0, (.osl (.int .i64)))]⟩) (.two .none (.draw [⟨0, [46], [9], [], [], []⟩, ⟨1, [47], [10], [], [], []⟩, ⟨2, [48], [46, 47], [0, 1], [], []⟩, ⟨3, [49], [48], [2], [], []⟩, ⟨4, [50], [0, 49], [3], [500000], []⟩, ⟨5, [51], [1, 49], [3], [], []⟩, ⟨6, [52], [50, 51, 49], [4, 5, 3], [0], []⟩, ⟨7, [53], [52, 49], [6, 3], [0], []⟩, ⟨8, [54], [0, 49], [3], [500000], []⟩, ⟨9, [55], [10, 49], [3], [], []⟩, ⟨10, [56], [54, 55, 49], [8, 9, 3], [0], []⟩, ⟨11, [57], [56, 49], [10, 3], [0], []⟩, ⟨12, [58], [53, 57, 49], [7, 11, 3, 3], [], []⟩, ⟨13, [59], [49, 58], [3, 12], [], []⟩]) (.two .none (.leaf) (.leaf))) (.one (.leaf)))))) (.two .none (.two .none (.leaf) (.two .none (.leaf) (.leaf))) (.two .none (.draw [⟨0, [65], [0], [], [500000], []⟩, ⟨1, [66], [9], [], [], []⟩, ⟨2, [67], [0], [], [500000], []⟩, ⟨3, [68], [10], [], [], []⟩, ⟨4, [69], [0], [], [500000], []⟩, ⟨5, [70], [10], [], [], []⟩, ⟨6, [71], [69, 70], [4, 5], [0], []⟩, ⟨7, [72], [71], [6], [0], []⟩, ⟨8, [73], [0], [], [500000], []⟩, ⟨9, [74], [9], [], [], []⟩, ⟨10, [75], [73, 74], [8, 9], [0], []⟩, ⟨11, [76], [75], [10], [0], []⟩, ⟨12, [77], [65, 66], [0, 1, 0, 1, 4, 5, 6, 7, 11], [0], []⟩, ⟨13, [], [77, 72], [12, 7, 0, 1, 4, 5, 6, 7, 11], [0], [0]⟩, ⟨14, [78], [67, 68], [2, 3, 0, 1, 2, 3, 4, 5, 6, 7, 8, 9, 10, 11, 12, 13], [0], []⟩, ⟨15, [], [78, 76], [14, 11, 13, 0, 1, 2, 3, 4, 5, 6, 7, 8, 9, 10, 11, 12, 13], [0], [0]⟩]) (.two .none (.leaf) (.leaf))))))))) (.two .none (.leaf) (.leaf))))))) Try.func83 (by kernel_rfl) (by kernel_rfl) (by kernel_rfl) Try.call83 (tbl_cons ok67 tbl_nil) (by intro a; kernel_rfl)
noncomputable def F84 : Fun := ⟨84, [.m (.osl (.int .i64)), .v (.int .i64), .v (.int .i64), .v (.int .i64)], [(.int .i64), .bool], d_slices_partitionOrdered_int⟩
theorem ok84 : OkFun E F84 :=
  OkFun.of (fn := Try.f84) (rs := [.tmp 8, .tmp 9]) ((67, F67) :: []) [] [] (.keep [1, 2, 3] (.two .none (.leaf) (.two .none (.draw [⟨0, [12], [0], [], [500000], []⟩, ⟨1, [13], [1], [], [], []⟩, ⟨2, [14], [0], [], [500000], []⟩, ⟨3, [15], [3], [], [], []⟩, ⟨4, [16], [0], [], [500000], []⟩, ⟨5, [17], [3], [], [], []⟩, ⟨6, [18], [16, 17], [4, 5], [0], []⟩, ⟨7, [19], [18], [6], [0], []⟩, ⟨8, [20], [0], [], [500000], []⟩, ⟨9, [21], [1], [], [], []⟩, ⟨10, [22], [20, 21], [8, 9], [0], []⟩, ⟨11, [23], [22], [10], [0], []⟩, ⟨12, [24], [12, 13], [0, 1, 0, 1, 4, 5, 6, 7, 11], [0], []⟩, ⟨13, [], [24, 19], [12, 7, 0, 1, 4, 5, 6, 7, 11], [0], [0]⟩, ⟨14, [25], [14, 15], [2, 3, 0, 1, 2, 3, 4, 5, 6, 7, 8, 9, 10, 11, 12, 13], [0], []⟩, ⟨15, [], [25, 23], [14, 11, 13, 0, 1, 2, 3, 4, 5, 6, 7, 8, 9, 10, 11, 12, 13], [0], [0]⟩]) (.two .none (.leaf) (.two .none (.one (.keep [11] (.loop ⟨[(0, .s (.ref 0 [])), (10, .v (.int .i64))], [(0, (.osl (.int .i64)))]⟩ (.x 0 ⟨[(0, .s (.ref 0 [])), (10, .v (.int .i64))], [(0, (.osl (.int .i64)))]⟩) (.two (.xr [10] ⟨[(0, .s (.ref 0 []))], [(0, (.osl (.int .i64)))]⟩) (.two .none (.draw [⟨0, [30], [10], [], [], []⟩, ⟨1, [31], [11], [], [], []⟩, ⟨2, [32], [30, 31], [0, 1], [], []⟩, ⟨3, [33], [32], [2], [], []⟩, ⟨4, [34], [0, 33], [3], [500000], []⟩, ⟨5, [35], [10, 33], [3], [], []⟩, ⟨6, [36], [34, 35, 33], [4, 5, 3], [0], []⟩, ⟨7, [37], [36, 33], [6, 3], [0], []⟩, ⟨8, [38], [0, 33], [3], [500000], []⟩, ⟨9, [39], [1, 33], [3], [], []⟩, ⟨10, [40], [38, 39, 33], [8, 9, 3], [0], []⟩, ⟨11, [41], [40, 33], [10, 3], [0], []⟩, ⟨12, [42], [37, 41, 33], [7, 11, 3, 3], [], []⟩, ⟨13, [43], [33, 42], [3, 12], [], []⟩]) (.two .none (.leaf) (.leaf))) (.one (.leaf)))))) (.two .none (.one (.keep [10] (.loop ⟨[(0, .s (.ref 0 [])), (11, .v (.int .i64))], [(0, (.osl (.int .i64)))]⟩ (.x 2 ⟨[(0, .s (.ref 0 [])), (11, .v (.int .i64))], [(0, (.osl (.int .i64)))]⟩) (.two (.xr [11] ⟨[(0, .s (.ref 0 []))], [(0, (.osl (.int .i64)))]⟩) (.two .none (.draw [⟨0, [46], [10], [], [], []⟩, ⟨1, [47], [11], [], [], []⟩, ⟨2, [48], [46, 47], [0, 1], [], []⟩, ⟨3, [49], [48], [2], [], []⟩, ⟨4, [50], [0, 49], [3], [500000], []⟩, ⟨5, [51], [11, 49], [3], [], []⟩, ⟨6, [52], [50, 51, 49], [4, 5, 3], [0], []⟩, ⟨7, [53], [52, 49], [6, 3], [0], []⟩, ⟨8, [54], [0, 49], [3], [500000], []⟩, ⟨9, [55], [1, 49], [3], [], []⟩, ⟨10, [56], [54, 55, 49], [8, 9, 3], [0], []⟩, ⟨11, [57], [56, 49], [10, 3], [0], []⟩, ⟨12, [58], [53, 57, 49], [7, 11, 3, 3], [], []⟩, ⟨13, [59], [58, 49], [12, 3], [], []⟩, ⟨14, [60], [49, 59], [3, 13], [], []⟩]) (.two .none (.leaf) (.leaf))) (.one (.leaf)))))) (.two .none (.two .none (.leaf) (.two .none (.two .none (.draw [⟨0, [66], [0], [], [500000], []⟩, ⟨1, [67], [11], [], [], []⟩, ⟨2, [68], [0], [], [500000], []⟩, ⟨3, [69], [1], [], [], []⟩, ⟨4, [70], [0], [], [500000], []⟩, ⟨5, [71], [1], [], [], []⟩, ⟨6, [72], [70, 71], [4, 5], [0], []⟩, ⟨7, [73], [72], [6], [0], []⟩, ⟨8, [74], [0], [], [500000], []⟩, ⟨9, [75], [11], [], [], []⟩, ⟨10, [76], [74, 75], [8, 9], [0], []⟩, ⟨11, [77], [76], [10], [0], []⟩, ⟨12, [78], [66, 67], [0, 1, 0, 1, 4, 5, 6, 7, 11], [0], []⟩, ⟨13, [], [78, 73], [12, 7, 0, 1, 4, 5, 6, 7, 11], [0], [0]⟩, ⟨14, [79], [68, 69], [2, 3, 0, 1, 2, 3, 4, 5, 6, 7, 8, 9, 10, 11, 12, 13], [0], []⟩, ⟨15, [], [79, 77], [14, 11, 13, 0, 1, 2, 3, 4, 5, 6, 7, 8, 9, 10, 11, 12, 13], [0], [0]⟩]) (.two .none (.leaf) (.leaf))) (.leaf))) (.two .none (.draw [⟨0, [81], [0], [], [500000], []⟩, ⟨1, [82], [10], [], [], []⟩, ⟨2, [83], [0], [], [500000], []⟩, ⟨3, [84], [11], [], [], []⟩, ⟨4, [85], [0], [], [500000], []⟩, ⟨5, [86], [11], [], [], []⟩, ⟨6, [87], [85, 86], [4, 5], [0], []⟩, ⟨7, [88], [87], [6], [0], []⟩, ⟨8, [89], [0], [], [500000], []⟩, ⟨9, [90], [10], [], [], []⟩, ⟨10, [91], [89, 90], [8, 9], [0], []⟩, ⟨11, [92], [91], [10], [0], []⟩, ⟨12, [93], [81, 82], [0, 1, 0, 1, 4, 5, 6, 7, 11], [0], []⟩, ⟨13, [], [93, 88], [12, 7, 0, 1, 4, 5, 6, 7, 11], [0], [0]⟩, ⟨14, [94], [83, 84], [2, 3, 0, 1, 2, 3, 4, 5, 6, 7, 8, 9, 10, 11, 12, 13], [0], []⟩, ⟨15, [], [94, 92], [14, 11, 13, 0, 1, 2, 3, 4, 5, 6, 7, 8, 9, 10, 11, 12, 13], [0], [0]⟩]) (.two .none (.leaf) (.two .none (.leaf) (.two .none (.one (.loop ⟨[(0, .s (.ref 0 [])), (10, .v (.int .i64)), (11, .v (.int .i64))], [(0, (.osl (.int .i64)))]⟩ (.x 4 ⟨[(0, .s (.ref 0 [])), (11, .v (.int .i64))], [(0, (.osl (.int .i64)))]⟩) (.one (.two .none (.one (.keep [11] (.loop ⟨[(0, .s (.ref 0 [])), (10, .v (.int .i64))], [(0, (.osl (.int .i64)))]⟩ (.x 6 ⟨[(0, .s (.ref 0 [])), (10, .v (.int .i64))], [(0, (.osl (.int .i64)))]⟩) (.two (.xr [10] ⟨[(0, .s (.ref 0 []))], [(0, (.osl (.int .i64)))]⟩) (.two .none (.draw [⟨0, [99], [10], [], [], []⟩, ⟨1, [100], [11], [], [], []⟩, ⟨2, [101], [99, 100], [0, 1], [], []⟩, ⟨3, [102], [101], [2], [], []⟩, ⟨4, [103], [0, 102], [3], [500000], []⟩, ⟨5, [104], [10, 102], [3], [], []⟩, ⟨6, [105], [103, 104, 102], [4, 5, 3], [0], []⟩, ⟨7, [106], [105, 102], [6, 3], [0], []⟩, ⟨8, [107], [0, 102], [3], [500000], []⟩, ⟨9, [108], [1, 102], [3], [], []⟩, ⟨10, [109], [107, 108, 102], [8, 9, 3], [0], []⟩, ⟨11, [110], [109, 102], [10, 3], [0], []⟩, ⟨12, [111], [106, 110, 102], [7, 11, 3, 3], [], []⟩, ⟨13, [112], [102, 111], [3, 12], [], []⟩]) (.two .none (.leaf) (.leaf))) (.one (.leaf)))))) (.two .none (.one (.keep [10] (.loop ⟨[(0, .s (.ref 0 [])), (11, .v (.int .i64))], [(0, (.osl (.int .i64)))]⟩ (.x 8 ⟨[(0, .s (.ref 0 [])), (11, .v (.int .i64))], [(0, (.osl (.int .i64)))]⟩) (.two (.xr [11] ⟨[(0, .s (.ref 0 []))], [(0, (.osl (.int .i64)))]⟩) (.two .none (.draw [⟨0, [115], [10], [], [], []⟩, ⟨1, [116], [11], [], [], []⟩, ⟨2, [117], [115, 116], [0, 1], [], []⟩, ⟨3, [118], [117], [2], [], []⟩, ⟨4, [119], [0, 118], [3], [500000], []⟩, ⟨5, [120], [11, 118], [3], [], []⟩, ⟨6, [121], [119, 120, 118], [4, 5, 3], [0], []⟩, ⟨7, [122], [121, 118], [6, 3], [0], []⟩, ⟨8, [123], [0, 118], [3], [500000], []⟩, ⟨9, [124], [1, 118], [3], [], []⟩, ⟨10, [125], [123, 124, 118], [8, 9, 3], [0], []⟩, ⟨11, [126], [125, 118], [10, 3], [0], []⟩, ⟨12, [127], [122, 126, 118], [7, 11, 3, 3], [], []⟩, ⟨13, [128], [127, 118], [12, 3], [], []⟩, ⟨14, [129], [118, 128], [3, 13], [], []⟩]) (.two .none (.leaf) (.leaf))) (.one (.leaf)))))) (.two .none (.two .none (.leaf) (.two .none (.leaf) (.leaf))) (.two .none (.draw [⟨0, [135], [0], [], [500000], []⟩, ⟨1, [136], [10], [], [], []⟩, ⟨2, [137], [0], [], [500000], []⟩, ⟨3, [138], [11], [], [], []⟩, ⟨4, [139], [0], [], [500000], []⟩, ⟨5, [140], [11], [], [], []⟩, ⟨6, [141], [139, 140], [4, 5], [0], []⟩, ⟨7, [142], [141], [6], [0], []⟩, ⟨8, [143], [0], [], [500000], []⟩, ⟨9, [144], [10], [], [], []⟩, ⟨10, [145], [143, 144], [8, 9], [0], []⟩, ⟨11, [146], [145], [10], [0], []⟩, ⟨12, [147], [135, 136], [0, 1, 0, 1, 4, 5, 6, 7, 11], [0], []⟩, ⟨13, [], [147, 142], [12, 7, 0, 1, 4, 5, 6, 7, 11], [0], [0]⟩, ⟨14, [148], [137, 138], [2, 3, 0, 1, 2, 3, 4, 5, 6, 7, 8, 9, 10, 11, 12, 13], [0], []⟩, ⟨15, [], [148, 146], [14, 11, 13, 0, 1, 2, 3, 4, 5, 6, 7, 8, 9, 10, 11, 12, 13], [0], [0]⟩]) (.two .none (.leaf) (.leaf))))))))) (.two .none (.draw [⟨0, [153], [0], [], [500000], []⟩, ⟨1, [154], [11], [], [], []⟩, ⟨2, [155], [0], [], [500000], []⟩, ⟨3, [156], [1], [], [], []⟩, ⟨4, [157], [0], [], [500000], []⟩, ⟨5, [158], [1], [], [], []⟩, ⟨6, [159], [157, 158], [4, 5], [0], []⟩, ⟨7, [160], [159], [6], [0], []⟩, ⟨8, [161], [0], [], [500000], []⟩, ⟨9, [162], [11], [], [], []⟩, ⟨10, [163], [161, 162], [8, 9], [0], []⟩, ⟨11, [164], [163], [10], [0], []⟩, ⟨12, [165], [153, 154], [0, 1, 0, 1, 4, 5, 6, 7, 11], [0], []⟩, ⟨13, [], [165, 160], [12, 7, 0, 1, 4, 5, 6, 7, 11], [0], [0]⟩, ⟨14, [166], [155, 156], [2, 3, 0, 1, 2, 3, 4, 5, 6, 7, 8, 9, 10, 11, 12, 13], [0], []⟩, ⟨15, [], [166, 164], [14, 11, 13, 0, 1, 2, 3, 4, 5, 6, 7, 8, 9, 10, 11, 12, 13], [0], [0]⟩]) (.two .none (.leaf) (.leaf)))))))))))))) Try.func84 (by kernel_rfl) (by kernel_rfl) (by kernel_rfl) Try.call84 (tbl_cons ok67 tbl_nil) (by intro a; kernel_rfl)
noncomputable def F75n (n : Nat) : Fun := ⟨75, [.m (.osl (.int .i64)), .v (.int .i64), .v (.int .i64), .v (.int .i64)], [], r_slices_pdqsortOrdered_int n⟩
theorem ok75n : ∀ n, OkFun E (F75n n)
  | 0 => ⟨Try.call75, fun _ _ h => by cases h⟩
  | n + 1 =>
    OkFun.of (fn := Try.f75) (rs := []) ((75, F75n n) :: (84, F84) :: (83, F83) :: (82, F82) :: (81, F81) :: (80, F80) :: (79, F79) :: (78, F78) :: (77, F77) :: (67, F67) :: []) [] [] (.two .none (.leaf) (.two .none (.leaf) (.one (.loop ⟨[(0, .s (.ref 0 [])), (1, .v (.int .i64)), (2, .v (.int .i64)), (3, .v (.int .i64)), (8, .v .bool), (9, .v .bool)], [(0, (.osl (.int .i64)))]⟩ .r (.one (.two .none (.leaf) (.two .none (.two .none (.leaf) (.two .none (.two .none (.leaf) (.leaf)) (.leaf))) (.two .none (.two .none (.leaf) (.two .none (.two .none (.leaf) (.leaf)) (.leaf))) (.two (.x [1, 2, 8, 9, 10] ⟨[(0, .s (.ref 0 [])), (3, .v (.int .i64))], [(0, (.osl (.int .i64)))]⟩) (.two .none (.leaf) (.two .none (.two .none (.leaf) (.leaf)) (.leaf))) (.two .none (.leaf) (.two (.x [1, 2, 3, 8, 9, 10] ⟨[(0, .s (.ref 0 [])), (11, .v (.int .i64)), (12, .v (.int .i64))], [(0, (.osl (.int .i64)))]⟩) (.two .none (.leaf) (.two .none (.two .none (.leaf) (.two .none (.leaf) (.leaf))) (.leaf))) (.two (.xr [1, 2, 3, 8, 9, 10, 11] ⟨[(0, .s (.ref 0 []))], [(0, (.osl (.int .i64)))]⟩) (.two (.x [] ⟨[(0, .s (.ref 0 [])), (68, .v .bool)], [(0, (.osl (.int .i64)))]⟩) (.leaf) (.two .none (.two .none (.leaf) (.two .none (.leaf) (.leaf))) (.leaf))) (.two (.xr [2, 3, 10, 11] ⟨[(0, .s (.ref 0 [])), (1, .v (.int .i64))], [(0, (.osl (.int .i64)))]⟩) (.two (.x [1, 8, 9] ⟨[(0, .s (.ref 0 [])), (87, .v .bool)], [(0, (.osl (.int .i64)))]⟩) (.draw [⟨0, [73], [1], [], [], []⟩, ⟨1, [74], [73], [0], [], []⟩, ⟨2, [75], [74], [1], [], []⟩, ⟨3, [76], [0, 75], [2], [500000], []⟩, ⟨4, [77], [1, 75], [2], [], []⟩, ⟨5, [78], [77, 75], [4, 2], [], []⟩, ⟨6, [79], [76, 78, 75], [3, 5, 2], [0], []⟩, ⟨7, [80], [79, 75], [6, 2], [0], []⟩, ⟨8, [81], [0, 75], [2], [500000], []⟩, ⟨9, [82], [11, 75], [2], [], []⟩, ⟨10, [83], [81, 82, 75], [8, 9, 2], [0], []⟩, ⟨11, [84], [83, 75], [10, 2], [0], []⟩, ⟨12, [85], [80, 84, 75], [7, 11, 2, 2], [], []⟩, ⟨13, [86], [85, 75], [12, 2], [], []⟩, ⟨14, [87], [75, 86], [2, 13], [], []⟩]) (.two .none (.two .none (.leaf) (.two .none (.leaf) (.leaf))) (.leaf))) (.two .none (.leaf) (.two .none (.leaf) (.two .none (.leaf) (.two .none (.leaf) (.two .none (.leaf) (.two .none (.two .none (.leaf) (.two .none (.leaf) (.leaf))) (.two .none (.leaf) (.two .none (.leaf) (.leaf)))))))))))))))))))))) Try.func75 (by kernel_rfl) (by kernel_rfl) (by kernel_rfl) Try.call75 (tbl_cons (ok75n n) (tbl_cons ok84 (tbl_cons ok83 (tbl_cons ok82 (tbl_cons ok81 (tbl_cons ok80 (tbl_cons ok79 (tbl_cons ok78 (tbl_cons ok77 (tbl_cons ok67 tbl_nil)))))))))) (by intro a; kernel_rfl)
noncomputable def F75 : Fun := ⟨75, [.m (.osl (.int .i64)), .v (.int .i64), .v (.int .i64), .v (.int .i64)], [], d_slices_pdqsortOrdered_int⟩
theorem ok75 : OkFun E F75 := fixO_ok ok75n
noncomputable def F70 : Fun := ⟨70, [.m (.osl (.int .i64))], [], d_slices_Sort_int_int⟩
theorem ok70 : OkFun E F70 :=
  OkFun.of (fn := Try.f70) (rs := []) ((76, F76) :: (75, F75) :: []) [] [] (.two .none (.leaf) (.leaf)) Try.func70 (by kernel_rfl) (by kernel_rfl) (by kernel_rfl) Try.call70 (tbl_cons ok76 (tbl_cons ok75 tbl_nil)) (by intro a; kernel_rfl)
noncomputable def F53 : Fun := ⟨53, [.v (.slc .bor (.int .i64))], [.bool], d_graph_twice⟩
theorem ok53 : OkFun E F53 := Tw.tw_ok rfl (sort := fun l => (d_slices_Sort_int_int (l, ())).map fun r => r.1) (fun zs ys h => by obtain ⟨r, hr, rfl⟩ := Option.map_eq_some_iff.1 h; exact ok70.2 (zs, ()) r hr)
noncomputable def F51x0 : Fun := ⟨51, [.v (.int .i64), .v (.ptr .imm (.st (.pr (.slc .bor (.slc .bor (.int .i64))) .nil)))], [.bool], d_graph_Permuted_1q_q0⟩
theorem ok51x0 : OkFun E F51x0 :=
  OkFun.of (fn := Try.f51) (rs := [.tmp 3]) ((52, F52) :: []) [] [] (.keep [0, 1] (.two .none (.leaf) (.two .none (.leaf) (.leaf)))) Try.func51 (by kernel_rfl) (by kernel_rfl) (by kernel_rfl) Try.call51 (tbl_cons ok52 tbl_nil) (by intro a; kernel_rfl)
noncomputable def F61x0 : Fun := ⟨61, [.v (.slc .bor (.int .i64)), .c 51 [(.ptr .imm (.st (.pr (.slc .bor (.slc .bor (.int .i64))) .nil)))]], [(.int .i64)], d_slices_IndexFunc_int_int_q0⟩
theorem ok61x0 : OkFun E F61x0 :=
  OkFun.of (fn := Try.f61) (rs := [.tmp 4]) ((51, F51x0) :: []) [] [] (.keep [0, 1] (.two .none (.leaf) (.two .none (.two .none (.leaf) (.one (.keep [7] (.loop ⟨[(8, .v (.int .i64))], []⟩ (.xr 0 ⟨[], []⟩) (.two .none (.leaf) (.two .none (.two .none (.leaf) (.leaf)) (.two .none (.one (.two .none (.leaf) (.two .none (.leaf) (.two .none (.two .none (.leaf) (.leaf)) (.leaf))))) (.leaf)))))))) (.two .none (.leaf) (.leaf))))) Try.func61 (by kernel_rfl) (by kernel_rfl) (by kernel_rfl) Try.call61 (tbl_cons ok51x0 tbl_nil) (by intro a; kernel_rfl)
noncomputable def F50x0 : Fun := ⟨50, [.v (.slc .bor (.int .i64)), .c 51 [(.ptr .imm (.st (.pr (.slc .bor (.slc .bor (.int .i64))) .nil)))]], [.bool], d_slices_ContainsFunc_int_int_q0⟩
theorem ok50x0 : OkFun E F50x0 :=
  OkFun.of (fn := Try.f50) (rs := [.tmp 4]) ((61, F61x0) :: []) [] [] (.keep [0, 1] (.two .none (.leaf) (.two .none (.leaf) (.leaf)))) Try.func50 (by kernel_rfl) (by kernel_rfl) (by kernel_rfl) Try.call50 (tbl_cons ok61x0 tbl_nil) (by intro a; kernel_rfl)
noncomputable def F38 : Fun := ⟨38, [.v (.st (.pr (.slc .bor (.slc .bor (.int .i64))) .nil)), .v (.slc .bor (.int .i64))], [(.int .i64)], d_graph_Permuted⟩
theorem ok38 : OkFun E F38 :=
  OkFun.of (fn := Try.f38) (rs := [.tmp 4]) ((53, F53) :: (33, F33) :: (50, F50x0) :: []) [(2, (.ptr .imm (.st (.pr (.slc .bor (.slc .bor (.int .i64))) .nil))))] [] (.keep [0, 1] (.two .none (.leaf) (.two .none (.leaf) (.two .none (.one (.two .none (.leaf) (.two .none (.two .none (.leaf) (.leaf)) (.two .none (.leaf) (.two .none (.two .none (.leaf) (.leaf)) (.two .none (.leaf) (.two .none (.two .none (.leaf) (.leaf)) (.leaf)))))))) (.two .none (.leaf) (.leaf)))))) Try.func38 (by kernel_rfl) (by kernel_rfl) (by kernel_rfl) Try.call38 (tbl_cons ok53 (tbl_cons ok33 (tbl_cons ok50x0 tbl_nil))) (by intro a; kernel_rfl)
noncomputable def F16 : Fun := ⟨16, [.v (.st (.pr (.slc .bor (.slc .bor (.int .i64))) .nil)), .v (.slc .bor (.int .i64))], [(.osl (.int .i64)), (.int .i64)], d_mindeg_Degrees⟩
theorem ok16 : OkFun E F16 :=
  OkFun.of (fn := Try.f16) (rs := [.tmp 4, .tmp 5]) ((38, F38) :: (36, F36) :: (34, F34) :: []) [(2, (.ptr .imm (.st (.pr (.slc .bor (.slc .bor (.int .i64))) .nil)))), (8, (.osl (.int .i64))), (4, (.osl (.int .i64)))] [] (.keep [0, 1] (.two .none (.leaf) (.two .none (.leaf) (.two .none (.two .none (.leaf) (.two .none (.two .none (.leaf) (.leaf)) (.leaf))) (.two .none (.leaf) (.two .none (.leaf) (.two .none (.two .none (.leaf) (.one (.keep [19, 20] (.loop ⟨[(7, .s (.ref 7 [])), (8, .s (.ref 8 [])), (21, .v (.int .i64))], [(7, (.optr (.st (.pr (.osl (.osl .bool)) (.pr (.osl .bool) .nil))))), (8, (.osl (.int .i64)))]⟩ (.x 0 ⟨[(8, .s (.ref 8 []))], [(8, (.osl (.int .i64)))]⟩) (.two .none (.leaf) (.two .none (.two .none (.leaf) (.leaf)) (.two .none (.one (.two .none (.leaf) (.leaf))) (.leaf)))))))) (.two .none (.leaf) (.leaf))))))))) Try.func16 (by kernel_rfl) (by kernel_rfl) (by kernel_rfl) Try.call16 (tbl_cons ok38 (tbl_cons ok36 (tbl_cons ok34 tbl_nil))) (by intro a; kernel_rfl)
noncomputable def F18 : Fun := ⟨18, [.v (.slc .bor (.int .i64)), .v (.slc .bor (.int .i64))], [.bool], d_sparsekit_Ints⟩
theorem ok18 : OkFun E F18 :=
  OkFun.of (fn := Try.f18) (rs := [.tmp 4]) ([]) [] [] (.keep [0, 1] (.two .none (.leaf) (.two .none (.two .none (.leaf) (.two .none (.two .none (.leaf) (.leaf)) (.leaf))) (.two .none (.two .none (.leaf) (.one (.loop ⟨[(5, .v (.int .i64))], []⟩ (.xr 0 ⟨[], []⟩) (.two .none (.two .none (.leaf) (.two .none (.leaf) (.leaf))) (.two .none (.one (.two .none (.draw [⟨0, [17], [0], [], [], []⟩, ⟨1, [18], [5], [], [], []⟩, ⟨2, [19], [17, 18], [0, 1], [], []⟩, ⟨3, [20], [19], [2], [], []⟩, ⟨4, [21], [1], [], [], []⟩, ⟨5, [22], [5], [], [], []⟩, ⟨6, [23], [21, 22], [4, 5], [], []⟩, ⟨7, [24], [23], [6], [], []⟩, ⟨8, [25], [20, 24], [3, 7], [], []⟩]) (.two .none (.two .none (.leaf) (.leaf)) (.leaf)))) (.leaf)))))) (.two .none (.leaf) (.leaf)))))) Try.func18 (by kernel_rfl) (by kernel_rfl) (by kernel_rfl) Try.call18 tbl_nil (by intro a; kernel_rfl)
noncomputable def F10 : Fun := ⟨10, [], [.bool], d_sparselaw16q_awake⟩
theorem ok10 : OkFun E F10 :=
  OkFun.of (fn := Try.f10) (rs := [.tmp 0]) ((18, F18) :: (16, F16) :: (14, F14) :: []) [(1, (.st (.pr (.slc .imm (.slc .imm (.int .i64))) .nil))), (2, (.slc .imm (.int .i64))), (4, (.slc .imm (.int .i64)))] [(2, 15000), (4, 21000), (10, 6), (10, 7), (10, 8), (10, 9), (11, 10)] (.two .none (.leaf) (.two .none (.leaf) (.two .none (.leaf) (.two .none (.leaf) (.two .none (.leaf) (.leaf)))))) Try.func10 (by kernel_rfl) (by kernel_rfl) (by kernel_rfl) Try.call10 (tbl_cons ok18 (tbl_cons ok16 (tbl_cons ok14 tbl_nil))) (by intro a; kernel_rfl)
noncomputable def F11 : Fun := ⟨11, [.v (.int .i64), .v (.int .i64)], [(.int .i64)], d_sparsekit_Place⟩
theorem ok11 : OkFun E F11 :=
  OkFun.of (fn := Try.f11) (rs := [.tmp 4]) ([]) [] [] (.keep [0, 1] (.two .none (.leaf) (.two .none (.leaf) (.leaf)))) Try.func11 (by kernel_rfl) (by kernel_rfl) (by kernel_rfl) Try.call11 tbl_nil (by intro a; kernel_rfl)
noncomputable def F32 : Fun := ⟨32, [.v (.slc .bor (.slc .bor .bool))], [(.st (.pr (.osl (.slc .imm (.int .i64))) .nil))], d_sparseref12q_FromTable⟩
theorem ok32 : OkFun E F32 :=
  OkFun.of (fn := Try.f32) (rs := [.cell 2 27]) ([]) [(2, (.st (.pr (.osl (.slc .imm (.int .i64))) .nil))), (3, (.st (.pr (.osl (.slc .imm (.int .i64))) .nil))), (5, (.osl (.int .i64)))] [] (.keep [0] (.two .none (.leaf) (.two .none (.leaf) (.two .none (.two .none (.leaf) (.one (.loop ⟨[(2, .s (.ref 2 [])), (3, .s (.ref 3 [])), (4, .v (.int .i64))], [(2, (.optr (.st (.pr (.osl (.slc .imm (.int .i64))) .nil)))), (3, (.optr (.st (.pr (.osl (.slc .imm (.int .i64))) .nil))))]⟩ (.x 0 ⟨[(2, .s (.ref 2 [])), (3, .s (.ref 3 []))], [(2, (.optr (.st (.pr (.osl (.slc .imm (.int .i64))) .nil)))), (3, (.optr (.st (.pr (.osl (.slc .imm (.int .i64))) .nil))))]⟩) (.two .none (.two .none (.leaf) (.two .none (.leaf) (.leaf))) (.two .none (.one (.two .none (.leaf) (.two .none (.two .none (.leaf) (.one (.keep [4] (.loop ⟨[(2, .s (.ref 2 [])), (3, .s (.ref 3 [])), (5, .s (.ref 5 [])), (6, .v (.int .i64))], [(2, (.optr (.st (.pr (.osl (.slc .imm (.int .i64))) .nil)))), (3, (.optr (.st (.pr (.osl (.slc .imm (.int .i64))) .nil)))), (5, (.osl (.int .i64)))]⟩ (.x 2 ⟨[(2, .s (.ref 2 [])), (3, .s (.ref 3 [])), (5, .s (.ref 5 []))], [(2, (.optr (.st (.pr (.osl (.slc .imm (.int .i64))) .nil)))), (3, (.optr (.st (.pr (.osl (.slc .imm (.int .i64))) .nil)))), (5, (.osl (.int .i64)))]⟩) (.two .none (.two .none (.leaf) (.two .none (.leaf) (.leaf))) (.two (.x [6] ⟨[(2, .s (.ref 2 [])), (3, .s (.ref 3 [])), (5, .s (.ref 5 []))], [(2, (.optr (.st (.pr (.osl (.slc .imm (.int .i64))) .nil)))), (3, (.optr (.st (.pr (.osl (.slc .imm (.int .i64))) .nil)))), (5, (.osl (.int .i64)))]⟩) (.one (.two (.x [] ⟨[(2, .s (.ref 2 [])), (3, .s (.ref 3 [])), (5, .s (.ref 5 [])), (39, .v .bool)], [(2, (.optr (.st (.pr (.osl (.slc .imm (.int .i64))) .nil)))), (3, (.optr (.st (.pr (.osl (.slc .imm (.int .i64))) .nil)))), (5, (.osl (.int .i64)))]⟩) (.leaf) (.two .none (.leaf) (.leaf)))) (.leaf))))))) (.fz [5] (.leaf))))) (.leaf)))))) (.two .none (.leaf) (.leaf)))))) Try.func32 (by kernel_rfl) (by kernel_rfl) (by kernel_rfl) Try.call32 tbl_nil (by intro a; kernel_rfl)
noncomputable def F12 : Fun := ⟨12, [.v (.int .i64), .v (.slc .bor (.int .i64))], [(.st (.pr (.slc .imm (.slc .imm (.int .i64))) .nil))], d_sparsemake_Graph⟩
theorem ok12 : OkFun E F12 :=
  OkFun.of (fn := Try.f12) (rs := [.cell 4 27]) ((32, F32) :: (11, F11) :: []) [(4, (.st (.pr (.slc .imm (.slc .imm (.int .i64))) .nil))), (5, (.osl (.osl .bool))), (15, (.osl .bool)), (16, (.osl (.osl .bool)))] [(999999, 47)] (.keep [0, 1] (.two .none (.leaf) (.two .none (.leaf) (.two .none (.two .none (.leaf) (.one (.loop ⟨[(4, .s (.ref 4 [])), (5, .s (.ref 5 [])), (6, .v (.int .i64))], [(4, (.optr (.st (.pr (.slc .imm (.slc .imm (.int .i64))) .nil)))), (5, (.osl (.osl .bool)))]⟩ (.x 0 ⟨[(4, .s (.ref 4 [])), (5, .s (.ref 5 []))], [(4, (.optr (.st (.pr (.slc .imm (.slc .imm (.int .i64))) .nil)))), (5, (.osl (.osl .bool)))]⟩) (.two .none (.two .none (.leaf) (.two .none (.leaf) (.leaf))) (.two .none (.one (.leaf)) (.leaf)))))) (.two .none (.two .none (.leaf) (.one (.loop ⟨[(4, .s (.ref 4 [])), (5, .s (.ref 5 [])), (7, .v (.int .i64))], [(4, (.optr (.st (.pr (.slc .imm (.slc .imm (.int .i64))) .nil)))), (5, (.osl (.osl .bool)))]⟩ (.x 2 ⟨[(4, .s (.ref 4 [])), (5, .s (.ref 5 []))], [(4, (.optr (.st (.pr (.slc .imm (.slc .imm (.int .i64))) .nil)))), (5, (.osl (.osl .bool)))]⟩) (.two (.xr [7] ⟨[(4, .s (.ref 4 [])), (5, .s (.ref 5 []))], [(4, (.optr (.st (.pr (.slc .imm (.slc .imm (.int .i64))) .nil)))), (5, (.osl (.osl .bool)))]⟩) (.two .none (.leaf) (.two .none (.leaf) (.leaf))) (.two .none (.one (.draw [⟨0, [29], [5], [], [500005], []⟩, ⟨1, [30], [1], [], [], []⟩, ⟨2, [31], [7], [], [], []⟩, ⟨3, [32], [30, 31], [1, 2], [], []⟩, ⟨4, [33], [32], [3], [], []⟩, ⟨5, [34], [0], [], [], []⟩, ⟨6, [35], [33, 34], [4, 5], [], []⟩, ⟨7, [36], [29, 35], [0, 6], [5], []⟩, ⟨8, [37], [36], [7], [5], []⟩, ⟨9, [38], [1], [], [], []⟩, ⟨10, [39], [7], [], [], []⟩, ⟨11, [40], [39], [10], [], []⟩, ⟨12, [41], [38, 40], [9, 11], [], []⟩, ⟨13, [42], [41], [12], [], []⟩, ⟨14, [43], [0], [], [], []⟩, ⟨15, [44], [42, 43], [13, 14, 6], [], []⟩, ⟨16, [45], [37, 44], [8, 15, 0, 1, 2, 3, 4, 5, 6, 7, 8, 9, 10, 11, 12, 13, 14, 15], [5], []⟩, ⟨17, [], [45], [16, 15, 0, 1, 2, 3, 4, 5, 6, 7, 8, 9, 10, 11, 12, 13, 14, 15], [5], [5]⟩])) (.leaf)))))) (.two .none (.leaf) (.leaf))))))) Try.func12 (by kernel_rfl) (by kernel_rfl) (by kernel_rfl) Try.call12 (tbl_cons ok32 (tbl_cons ok11 tbl_nil)) (by intro a; kernel_rfl)
noncomputable def F13 : Fun := ⟨13, [.v (.slc .bor (.int .i64)), .v (.int .i64)], [(.osl (.int .i64))], d_sparsekit_Shuffle⟩
theorem ok13 : OkFun E F13 :=
  OkFun.of (fn := Try.f13) (rs := [.tmp 4]) ((11, F11) :: []) [(5, (.osl (.int .i64))), (7, (.osl (.int .i64)))] [] (.keep [0, 1] (.two .none (.leaf) (.two .none (.leaf) (.two .none (.two .none (.leaf) (.one (.loop ⟨[(5, .s (.ref 5 [])), (6, .v (.int .i64))], [(5, (.osl (.int .i64)))]⟩ (.x 0 ⟨[(5, .s (.ref 5 []))], [(5, (.osl (.int .i64)))]⟩) (.two .none (.two .none (.leaf) (.two .none (.leaf) (.leaf))) (.two .none (.one (.leaf)) (.leaf)))))) (.two .none (.leaf) (.two .none (.two .none (.leaf) (.one (.loop ⟨[(5, .s (.ref 5 [])), (7, .s (.ref 7 [])), (8, .v (.int .i64))], [(5, (.osl (.int .i64))), (7, (.osl (.int .i64)))]⟩ (.x 2 ⟨[(7, .s (.ref 7 []))], [(7, (.osl (.int .i64)))]⟩) (.two .none (.two .none (.leaf) (.two .none (.leaf) (.leaf))) (.two (.x [8] ⟨[(5, .s (.ref 5 [])), (7, .s (.ref 7 []))], [(5, (.osl (.int .i64))), (7, (.osl (.int .i64)))]⟩) (.one (.two .none (.leaf) (.two (.x [] ⟨[(5, .s (.ref 5 [])), (7, .s (.ref 7 [])), (9, .v (.int .i64))], [(5, (.osl (.int .i64))), (7, (.osl (.int .i64)))]⟩) (.two .none (.leaf) (.two .none (.leaf) (.leaf))) (.two .none (.leaf) (.draw [⟨0, [42], [5], [], [500005], []⟩, ⟨1, [43], [9], [], [], []⟩, ⟨2, [44], [42, 43], [0, 1], [5], []⟩, ⟨3, [45], [5], [], [500005], []⟩, ⟨4, [46], [9], [], [], []⟩, ⟨5, [47], [46], [4], [], []⟩, ⟨6, [48], [45, 47], [3, 5], [5], []⟩, ⟨7, [49], [44, 48], [2, 6], [5, 49], [5, 49, 500005, 500049]⟩, ⟨8, [5], [49], [7, 7, 0, 1, 2, 3, 4, 5, 6, 7], [5, 49], [5, 49, 500005, 500049]⟩]))))) (.leaf)))))) (.two .none (.leaf) (.leaf)))))))) Try.func13 (by kernel_rfl) (by kernel_rfl) (by kernel_rfl) Try.call13 (tbl_cons ok11 tbl_nil) (by intro a; kernel_rfl)
noncomputable def F23 : Fun := ⟨23, [.v (.slc .bor (.int .i64)), .v (.int .i64)], [.bool], d_sparsekit_In⟩
theorem ok23 : OkFun E F23 :=
  OkFun.of (fn := Try.f23) (rs := [.tmp 4]) ([]) [] [] (.keep [0, 1] (.two .none (.leaf) (.two .none (.two .none (.leaf) (.one (.loop ⟨[(5, .v (.int .i64))], []⟩ (.xr 0 ⟨[], []⟩) (.two .none (.two .none (.leaf) (.two .none (.leaf) (.leaf))) (.two .none (.one (.two .none (.leaf) (.two .none (.two .none (.leaf) (.leaf)) (.leaf)))) (.leaf)))))) (.two .none (.leaf) (.leaf))))) Try.func23 (by kernel_rfl) (by kernel_rfl) (by kernel_rfl) Try.call23 tbl_nil (by intro a; kernel_rfl)
noncomputable def F39 : Fun := ⟨39, [.v (.st (.pr (.slc .bor (.slc .bor (.int .i64))) .nil))], [(.osl (.osl .bool))], d_sparseref12q_Table⟩
theorem ok39 : OkFun E F39 :=
  OkFun.of (fn := Try.f39) (rs := [.tmp 2]) ([]) [(1, (.ptr .imm (.st (.pr (.slc .bor (.slc .bor (.int .i64))) .nil)))), (4, (.osl (.osl .bool))), (17, (.osl .bool)), (40, (.osl (.osl .bool)))] [] (.keep [0] (.two .none (.leaf) (.two .none (.leaf) (.two .none (.leaf) (.two .none (.two .none (.leaf) (.one (.keep [1, 3] (.loop ⟨[(4, .s (.ref 4 [])), (5, .v (.int .i64))], [(4, (.osl (.osl .bool)))]⟩ (.x 0 ⟨[(4, .s (.ref 4 []))], [(4, (.osl (.osl .bool)))]⟩) (.two .none (.two .none (.leaf) (.two .none (.leaf) (.leaf))) (.two .none (.one (.two .none (.leaf) (.two .none (.two .none (.leaf) (.one (.keep [5] (.loop ⟨[(4, .s (.ref 4 [])), (6, .s (.ref 6 [])), (7, .v (.int .i64))], [(4, (.osl (.osl .bool))), (6, (.osl .bool))]⟩ (.x 2 ⟨[(4, .s (.ref 4 [])), (6, .s (.ref 6 []))], [(4, (.osl (.osl .bool))), (6, (.osl .bool))]⟩) (.two .none (.two .none (.leaf) (.two .none (.leaf) (.leaf))) (.two .none (.one (.leaf)) (.leaf))))))) (.leaf)))) (.leaf))))))) (.two .none (.leaf) (.leaf))))))) Try.func39 (by kernel_rfl) (by kernel_rfl) (by kernel_rfl) Try.call39 tbl_nil (by intro a; kernel_rfl)
noncomputable def F20 : Fun := ⟨20, [.v (.st (.pr (.slc .bor (.slc .bor (.int .i64))) .nil))], [(.optr (.st (.pr (.osl (.osl .bool)) (.pr (.osl .bool) .nil))))], d_sparseref16q_Begin⟩
theorem ok20 : OkFun E F20 :=
  OkFun.of (fn := Try.f20) (rs := [.tmp 2]) ((39, F39) :: []) [(1, (.ptr .imm (.st (.pr (.slc .bor (.slc .bor (.int .i64))) .nil)))), (8, (.osl .bool))] [] (.keep [0] (.two .none (.leaf) (.two .none (.draw [⟨0, [3], [1], [], [], []⟩, ⟨1, [4], [3], [0], [4], [4]⟩, ⟨2, [5], [1], [], [], []⟩, ⟨3, [6], [5], [2], [], []⟩, ⟨4, [7], [6], [3], [], []⟩, ⟨5, [8], [7, 7], [4, 4], [8], [8]⟩, ⟨6, [9], [4, 8], [1, 5], [4, 8, 9], [4, 8, 9, 500004, 500008]⟩, ⟨7, [10], [9], [6], [9, 10], [9, 10, 500009]⟩, ⟨8, [2], [10], [7, 1, 0, 1, 2, 3, 4, 5, 6, 7], [2, 10], [2, 10, 500002, 500010]⟩]) (.leaf)))) Try.func20 (by kernel_rfl) (by kernel_rfl) (by kernel_rfl) Try.call20 (tbl_cons ok39 tbl_nil) (by intro a; kernel_rfl)
noncomputable def F21 : Fun := ⟨21, [.v (.ptr .bor (.st (.pr (.slc .bor (.slc .bor .bool)) (.pr (.slc .bor .bool) .nil)))), .v (.int .i64)], [(.osl (.int .i64))], d_sparseref16q_Elimination_Neighbours⟩
theorem ok21 : OkFun E F21 :=
  OkFun.of (fn := Try.f21) (rs := [.tmp 4]) ([]) [(5, (.osl (.int .i64)))] [] (.keep [0, 1] (.two .none (.leaf) (.two .none (.leaf) (.two .none (.two .none (.leaf) (.one (.loop ⟨[(5, .s (.ref 5 [])), (6, .v (.int .i64))], [(5, (.osl (.int .i64)))]⟩ (.x 0 ⟨[(5, .s (.ref 5 []))], [(5, (.osl (.int .i64)))]⟩) (.two .none (.two .none (.leaf) (.two .none (.leaf) (.leaf))) (.two (.x [6] ⟨[(5, .s (.ref 5 []))], [(5, (.osl (.int .i64)))]⟩) (.one (.two (.x [] ⟨[(5, .s (.ref 5 [])), (35, .v .bool)], [(5, (.osl (.int .i64)))]⟩) (.leaf) (.two .none (.leaf) (.leaf)))) (.leaf)))))) (.two .none (.leaf) (.leaf)))))) Try.func21 (by kernel_rfl) (by kernel_rfl) (by kernel_rfl) Try.call21 tbl_nil (by intro a; kernel_rfl)
noncomputable def F22 : Fun := ⟨22, [.m (.optr (.st (.pr (.osl (.osl .bool)) (.pr (.osl .bool) .nil)))), .v (.int .i64)], [], d_sparseref16q_Elimination_Eliminate⟩
theorem ok22 : OkFun E F22 :=
  OkFun.of (fn := Try.f22) (rs := []) ((21, F21) :: []) [(4, (.slc .imm (.int .i64)))] [(4, 9)] (.keep [1] (.two .none (.leaf) (.two .none (.two .none (.leaf) (.one (.keep [4] (.loop ⟨[(0, .s (.ref 0 [])), (5, .v (.int .i64))], [(0, (.optr (.st (.pr (.osl (.osl .bool)) (.pr (.osl .bool) .nil)))))]⟩ (.x 0 ⟨[(0, .s (.ref 0 []))], [(0, (.optr (.st (.pr (.osl (.osl .bool)) (.pr (.osl .bool) .nil)))))]⟩) (.two .none (.two .none (.leaf) (.two .none (.leaf) (.leaf))) (.two .none (.one (.two .none (.leaf) (.one (.keep [5] (.loop ⟨[(0, .s (.ref 0 [])), (6, .v (.int .i64))], [(0, (.optr (.st (.pr (.osl (.osl .bool)) (.pr (.osl .bool) .nil)))))]⟩ (.x 2 ⟨[(0, .s (.ref 0 []))], [(0, (.optr (.st (.pr (.osl (.osl .bool)) (.pr (.osl .bool) .nil)))))]⟩) (.two .none (.two .none (.leaf) (.two .none (.leaf) (.leaf))) (.two (.x [6] ⟨[(0, .s (.ref 0 []))], [(0, (.optr (.st (.pr (.osl (.osl .bool)) (.pr (.osl .bool) .nil)))))]⟩) (.one (.two .none (.leaf) (.two .none (.draw [⟨0, [25], [0], [], [500000], []⟩, ⟨1, [26], [25], [0], [0], []⟩, ⟨2, [27], [26], [1], [0], []⟩, ⟨3, [28], [27], [2], [0], []⟩, ⟨4, [29], [4], [], [], []⟩, ⟨5, [30], [5], [], [], []⟩, ⟨6, [31], [29, 30], [4, 5], [], []⟩, ⟨7, [32], [31], [6], [], []⟩, ⟨8, [33], [28, 32], [3, 7], [0], []⟩, ⟨9, [34], [33], [8], [0], []⟩, ⟨10, [35], [4], [], [], []⟩, ⟨11, [36], [6], [], [], []⟩, ⟨12, [37], [35, 36], [10, 11], [], []⟩, ⟨13, [38], [37], [12], [], []⟩, ⟨14, [39], [34, 38], [9, 13, 0, 1, 2, 3, 4, 5, 6, 7, 8, 9, 10, 11, 12, 13], [0], []⟩, ⟨15, [], [39], [14, 0, 1, 2, 3, 4, 5, 6, 7, 8, 9, 10, 11, 12, 13], [0], [0]⟩]) (.leaf)))) (.leaf)))))))) (.leaf))))))) (.leaf)))) Try.func22 (by kernel_rfl) (by kernel_rfl) (by kernel_rfl) Try.call22 (tbl_cons ok21 tbl_nil) (by intro a; kernel_rfl)
noncomputable def F5 : Fun := ⟨5, [.v (.int .i64), .v (.slc .bor (.int .i64)), .v (.slc .bor (.int .i64))], [.bool], d_sparselaw16q_MindegComponents⟩
theorem ok5 : OkFun E F5 :=
  OkFun.of (fn := Try.f5) (rs := [.tmp 6]) ((23, F23) :: (22, F22) :: (21, F21) :: (20, F20) :: (16, F16) :: (13, F13) :: (12, F12) :: (11, F11) :: (10, F10) :: []) [(7, (.st (.pr (.slc .imm (.slc .imm (.int .i64))) .nil))), (8, (.slc .imm (.int .i64))), (9, (.slc .imm (.int .i64))), (17, (.slc .imm (.int .i64)))] [(8, 31), (9, 36000), (17, 77)] (.keep [1, 2] (.two .none (.leaf) (.two .none (.two .none (.leaf) (.two .none (.two .none (.leaf) (.leaf)) (.leaf))) (.two .none (.leaf) (.two .none (.leaf) (.two .none (.leaf) (.two .none (.leaf) (.two (.xr [0, 8, 9] ⟨[(7, .s (.ref 7 []))], [(7, (.optr (.st (.pr (.slc .imm (.slc .imm (.int .i64))) .nil))))]⟩) (.two .none (.leaf) (.two .none (.two .none (.leaf) (.leaf)) (.leaf))) (.two .none (.leaf) (.two .none (.two .none (.leaf) (.one (.keep [0, 8, 9] (.loop ⟨[(7, .s (.ref 7 [])), (11, .v (.int .i64)), (12, .v (.int .i64)), (13, .v (.int .i64))], [(7, (.optr (.st (.pr (.slc .imm (.slc .imm (.int .i64))) .nil))))]⟩ (.x 0 ⟨[(7, .s (.ref 7 [])), (11, .v (.int .i64)), (12, .v (.int .i64))], [(7, (.optr (.st (.pr (.slc .imm (.slc .imm (.int .i64))) .nil))))]⟩) (.two .none (.two .none (.leaf) (.two .none (.leaf) (.leaf))) (.two .none (.one (.two .none (.leaf) (.leaf))) (.leaf))))))) (.two .none (.leaf) (.two .none (.leaf) (.two .none (.two .none (.leaf) (.one (.keep [0, 8, 11, 12] (.loop ⟨[(7, .s (.ref 7 [])), (14, .s (.ref 14 [])), (15, .v .bool), (16, .v (.int .i64))], [(7, (.optr (.st (.pr (.slc .imm (.slc .imm (.int .i64))) .nil)))), (14, (.optr (.st (.pr (.osl (.osl .bool)) (.pr (.osl .bool) .nil)))))]⟩ (.x 2 ⟨[(15, .v .bool)], []⟩) (.two .none (.two .none (.leaf) (.two .none (.leaf) (.leaf))) (.two .none (.one (.two .none (.leaf) (.two .none (.two .none (.leaf) (.one (.keep [16, 17] (.loop ⟨[(7, .s (.ref 7 [])), (14, .s (.ref 14 [])), (15, .v .bool), (18, .v (.int .i64))], [(7, (.optr (.st (.pr (.slc .imm (.slc .imm (.int .i64))) .nil)))), (14, (.optr (.st (.pr (.osl (.osl .bool)) (.pr (.osl .bool) .nil)))))]⟩ (.x 4 ⟨[(7, .s (.ref 7 [])), (14, .s (.ref 14 [])), (15, .v .bool)], [(7, (.optr (.st (.pr (.slc .imm (.slc .imm (.int .i64))) .nil)))), (14, (.optr (.st (.pr (.osl (.osl .bool)) (.pr (.osl .bool) .nil)))))]⟩) (.two .none (.two .none (.leaf) (.two .none (.leaf) (.leaf))) (.two .none (.one (.two .none (.leaf) (.one (.keep [18] (.loop ⟨[(7, .s (.ref 7 [])), (14, .s (.ref 14 [])), (15, .v .bool), (19, .v (.int .i64))], [(7, (.optr (.st (.pr (.slc .imm (.slc .imm (.int .i64))) .nil)))), (14, (.optr (.st (.pr (.osl (.osl .bool)) (.pr (.osl .bool) .nil)))))]⟩ (.x 6 ⟨[(7, .s (.ref 7 [])), (14, .s (.ref 14 [])), (15, .v .bool)], [(7, (.optr (.st (.pr (.slc .imm (.slc .imm (.int .i64))) .nil)))), (14, (.optr (.st (.pr (.osl (.osl .bool)) (.pr (.osl .bool) .nil)))))]⟩) (.two .none (.two .none (.leaf) (.two .none (.leaf) (.leaf))) (.two (.x [19] ⟨[(7, .s (.ref 7 [])), (14, .s (.ref 14 [])), (15, .v .bool)], [(7, (.optr (.st (.pr (.slc .imm (.slc .imm (.int .i64))) .nil)))), (14, (.optr (.st (.pr (.osl (.osl .bool)) (.pr (.osl .bool) .nil)))))]⟩) (.one (.draw [⟨0, [89], [15], [], [], []⟩, ⟨1, [90], [89], [0], [], []⟩, ⟨2, [91], [7, 90], [1], [7], []⟩, ⟨3, [92], [91, 90], [2, 1], [7], []⟩, ⟨4, [93], [17, 90], [1], [], []⟩, ⟨5, [94], [18, 90], [1], [], []⟩, ⟨6, [95], [93, 94, 90], [4, 5, 1], [], []⟩, ⟨7, [96], [95, 90], [6, 1], [], []⟩, ⟨8, [97], [92, 96, 90], [3, 7, 1], [], []⟩, ⟨9, [98], [97, 90], [8, 1], [], []⟩, ⟨10, [99], [17, 90], [1], [], []⟩, ⟨11, [100], [19, 90], [1], [], []⟩, ⟨12, [101], [99, 100, 90], [10, 11, 1], [], []⟩, ⟨13, [102], [101, 90], [12, 1], [], []⟩, ⟨14, [103], [98, 102, 90], [9, 13, 1, 1], [], []⟩, ⟨15, [104], [90, 103], [1, 14], [], []⟩, ⟨16, [15], [104], [15, 14, 0, 1, 2, 3, 4, 5, 6, 7, 8, 9, 10, 11, 12, 13, 14, 15], [], []⟩])) (.leaf)))))))) (.leaf))))))) (.leaf)))) (.leaf))))))) (.two .none (.leaf) (.leaf))))))))))))))) Try.func5 (by kernel_rfl) (by kernel_rfl) (by kernel_rfl) Try.call5 (tbl_cons ok23 (tbl_cons ok22 (tbl_cons ok21 (tbl_cons ok20 (tbl_cons ok16 (tbl_cons ok13 (tbl_cons ok12 (tbl_cons ok11 (tbl_cons ok10 tbl_nil))))))))) (by intro a; kernel_rfl)
end Go.Fw
end

section
namespace Go.Fw
theorem take_snoc {α : Type} {a : List α} {i : Nat} (h : i < a.length) : a.take i ++ [a[i]] = a.take (i + 1) := by
  rw [List.take_add_one, List.getElem?_eq_getElem h]; rfl
theorem pairwise_iff {l : List Int} : l.Pairwise (· < ·) ↔ ∀ k, (h : k + 1 < l.length) → l[k] < l[k + 1] := by
  constructor
  · intro h k hk
    exact (List.pairwise_iff_getElem.1 h) k (k + 1) (by omega) hk (by omega)
  · intro h
    rw [List.pairwise_iff_getElem]
    have key : ∀ d i (hi : i < l.length) (hj : i + d + 1 < l.length), l[i] < l[i + d + 1] := by
      intro d
      induction d with
      | zero => intro i hi hj; exact h i hj
      | succ d ih =>
        intro i hi hj
        have h1 := ih i hi (by omega)
        have h2 := h (i + d + 1) (by omega)
        exact Int.lt_trans h1 h2
    intro i j hi hj hij
    obtain ⟨d, rfl⟩ : ∃ d, j = i + d + 1 := ⟨j - i - 1, by omega⟩
    exact key d i hi hj
end Go.Fw
end

section
set_option linter.unusedSimpArgs false
set_option linter.unusedVariables false
namespace Go.Fw
def AscIn (l : List Int) (n : Int) : Prop := l.Pairwise (· < ·) ∧ ∀ x ∈ l, 0 ≤ x ∧ x < n
theorem Ok.count {σ ρ : Type} {f : σ → Option (σ ⊕ ρ)} {Q : ρ → Prop} (ix : σ → Int) (n : Nat) (I : Nat → σ → Prop) {i0 : Nat} {s0 : σ} (hix : ix s0 = (i0 : Int)) (h0 : I i0 s0) (hi : i0 ≤ n)
    (hstep : ∀ i s, i0 ≤ i → i < n → ix s = (i : Int) → I i s → Ok (f s) (fun | .inl s' => ix s' = ((i + 1 : Nat) : Int) ∧ I (i + 1) s' | .inr r => Q r))
    (hend : ∀ s, ix s = (n : Int) → I n s → Ok (f s) (fun | .inl _ => False | .inr r => Q r)) : Ok (Fw.loop f s0) Q := by
  refine Ok.loop (fun s => ∃ i : Nat, i0 ≤ i ∧ i ≤ n ∧ ix s = (i : Int) ∧ I i s) (fun s => n - (ix s).toNat) ⟨i0, Nat.le_refl _, hi, hix, h0⟩ ?_
  rintro s ⟨i, hl, hi, e, ht⟩
  rcases Nat.lt_or_ge i n with h | h
  · refine (hstep i s hl h e ht).mono ?_
    rintro (s' | r) hy
    · obtain ⟨e', h2⟩ := hy
      exact ⟨⟨i + 1, by omega, by omega, e', h2⟩, by rw [e, e']; simp; omega⟩
    · exact hy
  · obtain rfl : i = n := by omega
    refine (hend s e ht).mono ?_
    rintro (s' | r) hy
    · exact hy.elim
    · exact hy
open Classical in
theorem ascending_eq (l : List Int) (n : Int) (hl : l.length < 4611686018427387904) : d_graph_ascending (l, n, ()) = some (decide (AscIn l n), ()) := by
  rw [← Ok.eq_iff]
  unfold d_graph_ascending
  simp only [Ok.bind_iff]
  refine Ok.count (fun s => s.2.1) l.length (fun i s => s.1 = (if i = 0 then -1 else l.getD (i - 1) 0) ∧ (l.take i).Pairwise (· < ·) ∧ ∀ x ∈ l.take i, 0 ≤ x ∧ x < n) (i0 := 0) rfl ⟨rfl, by simp, by simp⟩ (Nat.zero_le _) ?_ ?_
  · rintro i ⟨last, j, _⟩ _ hi e ⟨h1, h2, h3⟩
    simp only at e h1
    subst e
    simp only [Ok.bif_iff, Ok.bind_iff, Ok.some_iff, Ok.getN_iff]
    -- what is before is less than the last one, which is at least -1
    have hlast : ∀ x ∈ l.take i, x ≤ last := by
      intro x hx
      rw [h1]
      obtain ⟨k, hk, rfl⟩ := List.mem_iff_getElem.1 hx
      simp only [List.length_take] at hk
      have hi0 : i ≠ 0 := by omega
      rw [if_neg hi0]
      simp only [List.getElem_take, List.getD, List.getElem?_eq_getElem (show i - 1 < l.length by omega), Option.getD_some]
      rcases Nat.lt_or_ge k (i - 1) with h | h
      · have := (List.pairwise_iff_getElem.1 h2) k (i - 1) (by simp; omega) (by simp; omega) h
        simp only [List.getElem_take] at this
        omega
      · have : k = i - 1 := by omega
        subst this; exact Int.le_refl _
    have hm1 : -1 ≤ last := by
      rw [h1]
      by_cases h0 : i = 0
      · rw [if_pos h0]; exact Int.le_refl _
      · rw [if_neg h0]
        simp only [List.getD, List.getElem?_eq_getElem (show i - 1 < l.length by omega), Option.getD_some]
        have := h3 (l[i - 1]) (List.mem_iff_getElem.2 ⟨i - 1, by simp; omega, by simp⟩)
        omega
    have hbad : (l[i] ≤ last ∨ n ≤ l[i]) → ¬ AscIn l n := by
      rintro h ⟨p1, p2⟩
      rcases h with h | h
      · rw [h1] at h
        by_cases h0 : i = 0
        · rw [if_pos h0] at h
          have := p2 _ (List.getElem_mem hi); omega
        · rw [if_neg h0] at h
          simp only [List.getD, List.getElem?_eq_getElem (show i - 1 < l.length by omega), Option.getD_some] at h
          have := (List.pairwise_iff_getElem.1 p1) (i - 1) i (by omega) hi (by omega)
          omega
      · have := p2 _ (List.getElem_mem hi); omega
    refine ⟨fun _ => ⟨hi, fun g1 => ⟨fun g2 => ?_, fun g2 => ?_⟩, fun g1 => ?_⟩, fun hf => by simp at hf; omega⟩
    · have := hbad (.inr (by simpa using g2))
      simp [this]
    · simp at g1 g2
      refine ⟨wrap_succ (by omega), ?_, ?_, ?_⟩
      · simp [List.getD, hi]
      · rw [← take_snoc hi, List.pairwise_append]
        refine ⟨h2, by simp, fun a ha b hb => ?_⟩
        simp only [List.mem_singleton] at hb
        subst hb
        have := hlast a ha; omega
      · rw [← take_snoc hi]
        intro x hx
        rcases List.mem_append.1 hx with hx | hx
        · exact h3 x hx
        · simp only [List.mem_singleton] at hx
          subst hx
          omega
    · have := hbad (.inl (by simpa using g1))
      simp [this]
  · rintro ⟨last, j, _⟩ e ⟨h1, h2, h3⟩
    simp only at e
    subst e
    simp only [Ok.bif_iff, Ok.some_iff]
    refine ⟨fun hf => by simp at hf, fun _ => ?_⟩
    rw [List.take_length] at h2 h3
    have : AscIn l n := ⟨h2, h3⟩
    simp [this]
theorem Less_eq (x y : Int) : d_cmp_Less_int (x, y, ()) = some (decide (x < y), ()) := by
  unfold d_cmp_Less_int d_cmp_isNaN_int
  simp
theorem wrapUq_eq (x : Int) (h1 : 0 ≤ x) (h2 : x < 18446744073709551616) : IntKind.u64.wrap x = x := by
  unfold IntKind.wrap
  rw [if_neg (by simp [IntKind.signed])]
  show x % 18446744073709551616 = x
  omega
theorem BinarySearch_eq (l : List Int) (v : Int) (hl : l.length < 4611686018427387904) (hp : l.Pairwise (· < ·)) : Ok (d_slices_BinarySearch_int_int (l, v, ())) (fun r => r.2.1 = decide (v ∈ l)) := by
  unfold d_slices_BinarySearch_int_int
  simp only [Ok.bind_iff]
  refine Ok.mono (P := fun q => ∃ i : Nat, q.1 = (i : Int) ∧ i ≤ l.length ∧ (∀ k, (h : k < l.length) → k < i → l[k] < v) ∧ (∀ k, (h : k < l.length) → i ≤ k → v ≤ l[k])) ?_ ?_
  · refine Ok.loop (fun s => ∃ i j : Nat, s.1 = (i : Int) ∧ s.2.1 = (j : Int) ∧ i ≤ j ∧ j ≤ l.length ∧ (∀ k, (h : k < l.length) → k < i → l[k] < v) ∧ (∀ k, (h : k < l.length) → j ≤ k → v ≤ l[k])) (fun s => (s.2.1 - s.1).toNat) ⟨0, l.length, rfl, rfl, Nat.zero_le _, Nat.le_refl _, fun k _ h => by omega, fun k h1 h2 => by omega⟩ ?_
    rintro ⟨i', j', _⟩ ⟨i, j, rfl, rfl, hij, hj, h1, h2⟩
    simp only [Ok.bif_iff, Ok.bind_iff, Ok.some_iff]
    refine ⟨fun hlt => ?_, fun hge => ?_⟩
    · have hlt : i < j := by simpa using hlt
      have e1 : IntKind.i64.wrap ((i : Int) + j) = (i : Int) + j := wrap64 (by omega) (by omega)
      rw [e1, wrapUq_eq _ (by omega) (by omega)]
      have hs : shrO IntKind.u64 ((i : Int) + j) 1 = some (((i + j) / 2 : Nat) : Int) := by
        unfold shrO
        rw [if_pos (by omega)]
        congr 1
        show ((i : Int) + j).fdiv (2 ^ min 1 64) = _
        rw [show (2 : Int) ^ min 1 64 = 2 from rfl, Int.fdiv_eq_ediv_of_nonneg _ (by omega)]
        omega
      rw [hs]
      simp only [Ok.some_iff]
      have e2 : IntKind.i64.wrap (((i + j) / 2 : Nat) : Int) = (((i + j) / 2 : Nat) : Int) := wrap64 (by omega) (by omega)
      rw [e2, Ok.getN_iff]
      refine ⟨by omega, ?_⟩
      rw [Less_eq]
      simp only [Ok.some_iff, Ok.bif_iff]
      have hh : (i + j) / 2 < l.length := by omega
      refine ⟨fun hlv => ?_, fun hlv => ?_⟩
      · have hlv : l[(i + j) / 2] < v := by simpa using hlv
        rw [wrap_succ (by omega)]
        refine ⟨⟨(i + j) / 2 + 1, j, rfl, rfl, by omega, hj, fun k hk hki => ?_, h2⟩, by omega⟩
        rcases Nat.lt_or_ge k ((i + j) / 2) with h | h
        · exact Int.lt_trans ((List.pairwise_iff_getElem.1 hp) k _ hk hh h) hlv
        · have : k = (i + j) / 2 := by omega
          subst this; exact hlv
      · have hlv : v ≤ l[(i + j) / 2] := by simpa using hlv
        refine ⟨⟨i, (i + j) / 2, rfl, rfl, by omega, by omega, h1, fun k hk hki => ?_⟩, by omega⟩
        rcases Nat.lt_or_ge ((i + j) / 2) k with h | h
        · have := (List.pairwise_iff_getElem.1 hp) _ k hh hk h; omega
        · have : k = (i + j) / 2 := by omega
          subst this; exact hlv
    · have hij' : i = j := by have : ¬ i < j := by simpa using hge
                              omega
      subst hij'
      exact ⟨i, rfl, hj, h1, h2⟩
  · rintro ⟨i', _⟩ ⟨i, rfl, hi, h1, h2⟩
    simp only
    have hno : (∀ h : i < l.length, l[i] ≠ v) → v ∉ l := by
      intro hne hm
      obtain ⟨k, hk, rfl⟩ := List.mem_iff_getElem.1 hm
      rcases Nat.lt_trichotomy k i with h | h | h
      · have := h1 k hk h; omega
      · subst h; exact hne hk rfl
      · have a1 := h2 i (by omega) (Nat.le_refl _)
        have a2 := (List.pairwise_iff_getElem.1 hp) i k (by omega) hk h
        omega
    simp only [Ok.bif_iff, Ok.bind_iff, Ok.some_iff, Ok.getN_iff]
    refine ⟨fun hlt => ?_, fun hge => ?_⟩
    · have hlt : i < l.length := by simpa using hlt
      refine ⟨hlt, fun hne => ?_, fun heq => ?_⟩
      · have hne : l[i] ≠ v := by simpa using hne
        refine ⟨hlt, ?_⟩
        unfold d_slices_isNaN_int
        simp [Ok.some_iff]
        exact hno (fun _ => hne)
      · have heq : l[i] = v := by simpa using heq
        simp [← heq]
    · have hge : ¬ i < l.length := by simpa using hge
      simp
      exact hno (fun h => absurd h hge)
structure Valid (adj : List (List Int)) : Prop where
  asc : ∀ v, (h : v < adj.length) → AscIn adj[v] adj.length
  irr : ∀ v, (h : v < adj.length) → (v : Int) ∉ adj[v]
  sym : ∀ v, (h : v < adj.length) → ∀ w : Nat, (hw : w < adj.length) → (w : Int) ∈ adj[v] → (v : Int) ∈ adj[w]
open Classical in
noncomputable def chk (adj : List (List Int)) : Int := if 200 < adj.length then 6 else if Valid adj then 0 else 1
open Classical in
theorem joined_eq (adj : List (List Int)) (v : Nat) (w : Int) (hv : v < adj.length) (hl : adj[v].length < 4611686018427387904) (hp : adj[v].Pairwise (· < ·)) : d_graph_joined ((adj, ()), (v : Int), w, ()) = some (decide (w ∈ adj[v]), ()) := by
  rw [← Ok.eq_iff]
  unfold d_graph_joined
  simp only [Ok.bind_iff, Ok.getN_iff]
  refine ⟨hv, (BinarySearch_eq _ _ hl hp).mono ?_⟩
  rintro ⟨i, b, _⟩ h
  simp only at h
  rw [Ok.some_iff, h]
theorem Check_eq (adj : List (List Int)) (hc : ∀ l ∈ adj, l.length < 4611686018427387904) : d_graph_Check ((adj, ()), ()) = some (chk adj, ()) := by
  classical
  rw [← Ok.eq_iff]
  unfold d_graph_Check
  simp only [Ok.bif_iff, Ok.bind_iff, Ok.some_iff]
  refine ⟨fun h => ?_, fun h => ?_⟩
  · have : 200 < adj.length := by simp at h; omega
    simp [chk, this]
  have hn : ¬ 200 < adj.length := by simp at h; omega
  have hbad : ¬ Valid adj → (1 : Int) = chk adj := fun h => by simp [chk, hn, h]
  refine Ok.mono (P := fun q => (q = .inr (1, ()) ∧ ¬ Valid adj) ∨ (q = .inl () ∧ ∀ k, (h : k < adj.length) → AscIn adj[k] adj.length ∧ (k : Int) ∉ adj[k])) ?_ ?_
  · refine Ok.for (i0 := 0) adj.length (fun i _ => ∀ k, k < i → (h : k < adj.length) → AscIn adj[k] adj.length ∧ (k : Int) ∉ adj[k]) rfl (fun k hk => by omega) (Nat.zero_le _) ?_ ?_
    · rintro i _ _ hi hI
      simp only [Ok.bif_iff, Ok.bind_iff, Ok.some_iff, Ok.getN_iff]
      refine ⟨fun _ => ⟨hi, ?_⟩, fun hf => by simp at hf; omega⟩
      rw [ascending_eq _ _ (hc _ (List.getElem_mem hi))]
      simp only [Ok.some_iff]
      refine ⟨fun ha => ?_, fun ha => .inl ⟨trivial, fun hv => ?_⟩⟩
      · have ha : AscIn adj[i] adj.length := by simpa using ha
        rw [joined_eq adj i i hi (hc _ (List.getElem_mem hi)) ha.1]
        simp only [Ok.some_iff, Ok.bif_iff]
        refine ⟨fun hj => .inl ⟨trivial, fun hv => hv.irr i hi (by simpa using hj)⟩, fun hj => ⟨wrap_succ (by omega), fun k hk hkl => ?_⟩⟩
        rcases Nat.lt_or_ge k i with h2 | h2
        · exact hI k h2 hkl
        · obtain rfl : k = i := by omega
          exact ⟨ha, by simpa using hj⟩
      · have := hv.asc i hi
        simp [this] at ha
    · intro t hI
      simp only [Ok.bif_iff, Ok.some_iff]
      exact ⟨fun hf => by simp at hf, fun _ => .inr ⟨trivial, fun k hk => hI k hk hk⟩⟩
  · rintro q (⟨rfl, hv⟩ | ⟨rfl, hA⟩)
    · simp only [Ok.some_iff, hbad hv]
    simp only [Ok.bind_iff]
    have hsym : (∀ v, (h : v < adj.length) → ∀ x ∈ adj[v], ∀ w : Nat, x = (w : Int) → (hw : w < adj.length) → (v : Int) ∈ adj[w]) → Valid adj := fun h => ⟨fun v hv => (hA v hv).1, fun v hv => (hA v hv).2, fun v hv w hw hm => h v hv w hm w rfl hw⟩
    refine Ok.mono (P := fun q => (q = .inr (1, ()) ∧ ¬ Valid adj) ∨ (q = .inl () ∧ ∀ v, (h : v < adj.length) → ∀ x ∈ adj[v], ∀ w : Nat, x = (w : Int) → (hw : w < adj.length) → (v : Int) ∈ adj[w])) ?_ ?_
    · refine Ok.for (i0 := 0) adj.length (fun i _ => ∀ v, v < i → (h : v < adj.length) → ∀ x ∈ adj[v], ∀ w : Nat, x = (w : Int) → (hw : w < adj.length) → (v : Int) ∈ adj[w]) rfl (fun k hk => by omega) (Nat.zero_le _) ?_ ?_
      · rintro i _ _ hi hI
        simp only [Ok.bif_iff, Ok.bind_iff, Ok.getN_iff]
        refine ⟨fun _ => ⟨hi, ?_⟩, fun hf => by simp at hf; omega⟩
        have hli := hc _ (List.getElem_mem hi)
        refine Ok.mono (P := fun q => (q = .inr (.inr (.inr (1, ()))) ∧ ¬ Valid adj) ∨ (q = .inl () ∧ ∀ x ∈ adj[i], ∀ w : Nat, x = (w : Int) → (hw : w < adj.length) → (i : Int) ∈ adj[w])) ?_ ?_
        · refine Ok.for (i0 := 0) adj[i].length (fun k _ => ∀ m, m < k → (h : m < adj[i].length) → ∀ w : Nat, adj[i][m] = (w : Int) → (hw : w < adj.length) → (i : Int) ∈ adj[w]) rfl (fun k hk => by omega) (Nat.zero_le _) ?_ ?_
          · rintro k _ _ hk hK
            simp only [Ok.bif_iff, Ok.bind_iff, Ok.getN_iff]
            refine ⟨fun _ => ⟨hk, ?_⟩, fun hf => by simp at hf; omega⟩
            have hr := (hA i hi).1.2 _ (List.getElem_mem hk)
            obtain ⟨w, hw⟩ : ∃ w : Nat, adj[i][k] = (w : Int) := ⟨adj[i][k].toNat, by omega⟩
            have hwl : w < adj.length := by omega
            rw [hw, joined_eq adj w i hwl (hc _ (List.getElem_mem hwl)) (hA w hwl).1.1]
            simp only [Ok.some_iff, Ok.bif_iff]
            refine ⟨fun hno => .inl ⟨trivial, fun hv => ?_⟩, fun hyes => ⟨wrap_succ (by omega), fun m hm hml w' hw' hw'l => ?_⟩⟩
            · have := hv.sym i hi w hwl (hw ▸ List.getElem_mem hk)
              simp [this] at hno
            · rcases Nat.lt_or_ge m k with h2 | h2
              · exact hK m h2 hml w' hw' hw'l
              · obtain rfl : m = k := by omega
                have : w' = w := by omega
                subst this
                simpa using hyes
          · intro t hK
            simp only [Ok.bif_iff, Ok.some_iff]
            refine ⟨fun hf => by simp at hf, fun _ => .inr ⟨trivial, fun x hx w hw hwl => ?_⟩⟩
            obtain ⟨m, hm, rfl⟩ := List.mem_iff_getElem.1 hx
            exact hK m hm hm w hw hwl
        · rintro q (⟨rfl, hv⟩ | ⟨rfl, hX⟩)
          · simp only [Ok.some_iff]
            exact .inl ⟨trivial, hv⟩
          · simp only [Ok.some_iff]
            refine ⟨wrap_succ (by omega), fun v hv hvl => ?_⟩
            rcases Nat.lt_or_ge v i with h2 | h2
            · exact hI v h2 hvl
            · obtain rfl : v = i := by omega
              exact hX
      · intro t hI
        simp only [Ok.bif_iff, Ok.some_iff]
        exact ⟨fun hf => by simp at hf, fun _ => .inr ⟨trivial, fun k hk => hI k hk hk⟩⟩
    · rintro q (⟨rfl, hv⟩ | ⟨rfl, hX⟩)
      · simp only [Ok.some_iff, hbad hv]
      · simp only [Ok.some_iff]
        simp [chk, hn, hsym hX]
end Go.Fw
end

section
namespace Go.Fw
def Nb (adj : List (List Int)) (v w : Nat) : Prop := ∃ h : v < adj.length, (w : Int) ∈ adj[v]
theorem Nb.lt {adj : List (List Int)} (hv : Valid adj) {v w : Nat} (h : Nb adj v w) : v < adj.length ∧ w < adj.length := by
  obtain ⟨h1, h2⟩ := h
  have := (hv.asc v h1).2 _ h2
  exact ⟨h1, by omega⟩
theorem Nb.symm {adj : List (List Int)} (hv : Valid adj) : ∀ v w, Nb adj v w → Nb adj w v := fun v w h => by
  obtain ⟨h1, h2⟩ := h.lt hv
  exact ⟨h2, hv.sym v h1 w h2 h.2⟩
theorem Nb.ne {adj : List (List Int)} (hv : Valid adj) {v w : Nat} (h : Nb adj v w) : v ≠ w := fun e => by
  subst e
  exact hv.irr v h.1 h.2
section
variable (adj : List (List Int))
variable {adj} {j : Nat} {T : Nat → Prop} {par ah : List Int}
end
end Go.Fw
end

section
set_option linter.unusedSimpArgs false
set_option linter.unusedVariables false
namespace Go.Fw
theorem sorted_filter (p : Nat → Bool) (k : Nat) : (((List.range k).filter p).map fun (j : Nat) => (j : Int)).Pairwise (· < ·) := by
  rw [List.pairwise_map]
  refine List.Pairwise.filter _ ?_
  exact (List.pairwise_lt_range).imp (fun h => by omega)
end Go.Fw
end

section
set_option linter.unusedSimpArgs false
set_option linter.unusedVariables false
namespace Go.Fw
theorem In_eq (l : List Int) (v : Int) (hl : l.length < 4611686018427387904) : d_sparsekit_In (l, v, ()) = some (decide (v ∈ l), ()) := by
  rw [← Ok.eq_iff]
  unfold d_sparsekit_In
  simp only [Ok.bind_iff]
  refine Ok.for (i0 := 0) l.length (fun i _ => v ∉ l.take i) rfl (by simp) (Nat.zero_le _) ?_ ?_
  · rintro i _ _ hi hI
    simp only [Ok.bif_iff, Ok.bind_iff, Ok.some_iff, Ok.getN_iff]
    refine ⟨fun _ => ⟨hi, fun he => ?_, fun hne => ⟨wrap_succ (by omega), ?_⟩⟩, fun hf => by simp at hf; omega⟩
    · have he : l[i] = v := by simpa using he
      have : v ∈ l := he ▸ List.getElem_mem hi
      simp [this]
    · rw [← take_snoc hi, List.mem_append]
      have hne : ¬ l[i] = v := by simpa using hne
      rintro (h | h)
      · exact hI h
      · exact hne (List.mem_singleton.1 h).symm
  · rintro _ hI
    simp only [Ok.bif_iff, Ok.some_iff]
    refine ⟨fun hf => by simp at hf, fun _ => ?_⟩
    rw [List.take_length] at hI
    simp [hI]
def placeV (a n : Int) : Int := (a % 18446744073709551616) % n
theorem wrapU64q_eq (x : Int) : IntKind.u64.wrap x = x % 18446744073709551616 := by
  unfold IntKind.wrap
  rw [if_neg (by simp [IntKind.signed])]
  rfl
theorem placeV_lt (a n : Int) (h : 0 < n) : 0 ≤ placeV a n ∧ placeV a n < n := by
  unfold placeV
  exact ⟨Int.emod_nonneg _ (by omega), Int.emod_lt_of_pos _ h⟩
theorem Place_eq (a n : Int) (h : 0 < n) (h2 : n ≤ 4294967296) : d_sparsekit_Place (a, n, ()) = some (placeV a n, ()) := by
  rw [← Ok.eq_iff]
  unfold d_sparsekit_Place
  simp only [Ok.bind_iff, wrapU64q_eq, show n % 18446744073709551616 = n by omega]
  unfold remO
  rw [if_pos (by omega)]
  have h3 : (a % 18446744073709551616).tmod n = placeV a n := Int.tmod_eq_emod_of_nonneg (Int.emod_nonneg _ (by omega))
  rw [Ok.some_iff, h3]
  have := placeV_lt a n h
  simp only [Ok.some_iff]
  rw [wrap64 (by omega) (by omega)]
def bitT (t : List (List Bool)) (v w : Nat) : Bool := (t.getD v []).getD w false
def lineT (t : List (List Bool)) (v k : Nat) : List Int := ((List.range k).filter fun w => v != w && (bitT t v w || bitT t w v)).map fun (w : Nat) => (w : Int)
def fromT (t : List (List Bool)) : List (List Int) := (List.range t.length).map fun v => lineT t v t.length
theorem lineT_length (t : List (List Bool)) (v k : Nat) : (lineT t v k).length ≤ k := by
  unfold lineT
  rw [List.length_map]
  exact Nat.le_trans (List.length_filter_le _ _) (by simp)
theorem lineT_succ (t : List (List Bool)) (v k : Nat) : lineT t v (k + 1) = lineT t v k ++ (if (v != k && (bitT t v k || bitT t k v)) = true then [(k : Int)] else []) := by
  unfold lineT
  rw [List.range_succ, List.filter_append, List.map_append]
  congr 1
  by_cases h : (v != k && (bitT t v k || bitT t k v)) = true
  · rw [if_pos h]; simp only [List.filter_cons, h, List.filter_nil]; rfl
  · rw [if_neg h]; simp only [List.filter_cons, List.filter_nil]; rw [if_neg h]; rfl
theorem bitT_get {t : List (List Bool)} {v w : Nat} (hv : v < t.length) (hw : w < t[v].length) : bitT t v w = t[v][w] := by
  unfold bitT
  simp [List.getD, hv, hw]
theorem FromTable_eq (t : List (List Bool)) (ht : ∀ l ∈ t, l.length = t.length) (hn : t.length ≤ 4294967296) : d_sparseref12q_FromTable (t, ()) = some ((fromT t, ()), ()) := by
  rw [← Ok.eq_iff]
  unfold d_sparseref12q_FromTable
  have hlim : lim = 4294967296 := rfl
  simp only [Ok.bind_iff]
  refine Ok.mono (P := fun q => q.2.1.1 = fromT t) ?_ ?_
  · refine Ok.for (i0 := 0) t.length (fun v s => s.2.1.1 = (List.range v).map fun v => lineT t v t.length) rfl rfl (Nat.zero_le _) ?_ ?_
    · rintro v ⟨s, g, _⟩ _ hv hg
      simp only at hg
      simp only [Ok.bif_iff, Ok.bind_iff, Ok.some_iff]
      refine ⟨fun _ => ?_, fun hf => by simp at hf; omega⟩
      refine Ok.mono (P := fun q => q.2.1 = g ∧ q.2.2.1 = lineT t v t.length) ?_ ?_
      · refine Ok.for (i0 := 0) t.length (fun w q => q.2.1 = g ∧ q.2.2.1 = lineT t v w) rfl ⟨rfl, rfl⟩ (Nat.zero_le _) ?_ ?_
        · rintro w ⟨s', g', l, _⟩ _ hw ⟨hg', hl⟩
          simp only at hl hg'
          subst hg'
          have hbv := ht _ (List.getElem_mem hv)
          have hbw := ht _ (List.getElem_mem hw)
          simp only [Ok.bif_iff (b := decide _), Ok.bind_iff (x := Option.bind _ _)]
          refine ⟨fun _ => ?_, fun hf => by simp at hf; omega⟩
          rw [Ok.bind_iff]
          refine Ok.mono (P := fun q => q = ((v != w && (bitT t v w || bitT t w v)), s', g', l, ())) ?_ ?_
          · simp only [Ok.bif_iff, Ok.bind_iff, Ok.some_iff, Ok.getN_iff]
            rw [bitT_get hv (by omega), bitT_get hw (by omega)]
            refine ⟨fun h => ⟨hv, by omega, fun h2 => ⟨hw, by omega, ?_⟩, fun h2 => ?_⟩, fun h => ?_⟩
            · have h : v ≠ w := by simp at h; omega
              have h2 : t[v][w] = false := by simpa using h2
              simp [h, h2]
            · have h : v ≠ w := by simp at h; omega
              have h2 : t[v][w] = true := by simpa using h2
              simp [h, h2]
            · have h : v = w := by simp at h; omega
              simp [h]
          · rintro q rfl
            have hll := lineT_length t v w
            simp only [Ok.bif_iff, Ok.bind_iff, Ok.some_iff, Ok.limO_iff]
            refine ⟨fun h => ⟨by rw [hl]; simp; omega, wrap_succ (by omega), trivial, ?_⟩, fun h => ⟨wrap_succ (by omega), trivial, ?_⟩⟩
            · rw [lineT_succ, if_pos h, hl]
            · rw [lineT_succ, if_neg (by rw [h]; simp), hl, List.append_nil]
        · rintro ⟨s', g', l, _⟩ ⟨hg', hl⟩
          simp only at hl hg'
          subst hg'
          simp only [Ok.bif_iff, Ok.some_iff]
          exact ⟨fun hf => by simp at hf, fun _ => ⟨trivial, hl⟩⟩
      · rintro ⟨s', g', l, _⟩ ⟨hg', hl⟩
        simp only at hl hg'
        subst hg'
        simp only [Ok.bind_iff, Ok.some_iff, Ok.limO_iff]
        refine ⟨by rw [hg]; simp; omega, wrap_succ (by omega), ?_⟩
        rw [hg, hl, List.range_succ, List.map_append]; rfl
    · rintro ⟨s, g, _⟩ hg
      simp only at hg
      simp only [Ok.bif_iff, Ok.some_iff]
      exact ⟨fun hf => by simp at hf, fun _ => hg⟩
  · rintro ⟨s, ⟨g, _⟩, _⟩ hg
    simp only at hg
    simp only [Ok.some_iff]
    rw [hg]
theorem mem_lineT {t : List (List Bool)} {v k w : Nat} : (w : Int) ∈ lineT t v k ↔ w < k ∧ v ≠ w ∧ (bitT t v w || bitT t w v) = true := by
  unfold lineT
  simp only [List.mem_map, List.mem_filter, List.mem_range, Bool.and_eq_true, bne_iff_ne]
  constructor
  · rintro ⟨a, ⟨h1, h2⟩, h3⟩
    have : a = w := by omega
    subst this
    exact ⟨h1, h2⟩
  · exact fun ⟨h1, h2⟩ => ⟨w, ⟨h1, h2⟩, rfl⟩
theorem fromT_valid (t : List (List Bool)) : Valid (fromT t) := by
  have hl : (fromT t).length = t.length := by simp [fromT]
  have hg : ∀ v, (h : v < (fromT t).length) → (fromT t)[v] = lineT t v t.length := fun v h => by simp [fromT]
  refine ⟨fun v h => ?_, fun v h => ?_, fun v h w hw hm => ?_⟩
  · rw [hg v h, hl]
    refine ⟨sorted_filter _ _, fun x hx => ?_⟩
    unfold lineT at hx
    simp only [List.mem_map, List.mem_filter, List.mem_range] at hx
    obtain ⟨a, ⟨h1, _⟩, rfl⟩ := hx
    omega
  · rw [hg v h, mem_lineT]
    exact fun hh => hh.2.1 rfl
  · rw [hg v h, mem_lineT] at hm
    rw [hg w hw, mem_lineT]
    exact ⟨by omega, hm.2.1.symm, by rw [Bool.or_comm]; exact hm.2.2⟩
theorem fromT_length (t : List (List Bool)) : (fromT t).length = t.length := by simp [fromT]
theorem fromT_lines (t : List (List Bool)) : ∀ l ∈ fromT t, l.length ≤ t.length := by
  intro l hl
  unfold fromT at hl
  simp only [List.mem_map, List.mem_range] at hl
  obtain ⟨v, _, rfl⟩ := hl
  exact lineT_length _ _ _
theorem Graph_ok (n : Nat) (l : List Int) (hn : n ≤ 200) (hl : l.length < 4611686018427387904) :
    Ok (d_sparsemake_Graph ((n : Int), l, ())) (fun r => r.1.1.length = n ∧ Valid r.1.1 ∧ ∀ x ∈ r.1.1, x.length ≤ n) := by
  unfold d_sparsemake_Graph
  have hlim : lim = 4294967296 := rfl
  simp only [Ok.bind_iff]
  refine Ok.mono (P := fun q => q.2.1 = List.replicate n (List.replicate n false)) ?_ ?_
  · refine Ok.for (i0 := 0) n (fun i s => s.2.1 = List.replicate i (List.replicate n false)) rfl rfl (Nat.zero_le _) ?_ ?_
    · rintro i ⟨s, t, _⟩ _ hi ht
      simp only at ht
      simp only [Ok.bif_iff, Ok.bind_iff, Ok.some_iff, Ok.madeO_iff, Ok.limO_iff, Int.toNat_natCast]
      refine ⟨fun _ => ⟨⟨by omega, by omega, by omega⟩, by rw [ht]; simp; omega, wrap_succ (by omega), ?_⟩, fun hf => by simp at hf; omega⟩
      rw [ht, List.replicate_succ']
    · rintro ⟨s, t, _⟩ ht
      simp only [Ok.bif_iff, Ok.some_iff]
      exact ⟨fun hf => by simp at hf, fun _ => ht⟩
  · rintro ⟨s, t, _⟩ ht
    simp only at ht
    subst ht
    simp only
    refine Ok.mono (P := fun q => q.2.1.length = n ∧ ∀ x ∈ q.2.1, x.length = n) ?_ ?_
    · refine Ok.loop (fun s => ∃ i : Nat, s.1 = (i : Int) ∧ i ≤ l.length + 1 ∧ s.2.2.1.length = n ∧ ∀ x ∈ s.2.2.1, x.length = n) (fun s => l.length + 1 - s.1.toNat) ⟨0, rfl, by omega, by simp, fun x hx => by rw [List.eq_of_mem_replicate hx]; simp⟩ ?_
      rintro ⟨i', s', t, _⟩ ⟨i, rfl, hi, h1, h2⟩
      simp only at h1 h2
      simp only [Ok.bind_iff, Ok.bif_iff, Ok.some_iff]
      have e1 : IntKind.i64.wrap ((i : Int) + 1) = ((i + 1 : Nat) : Int) := wrap_succ (by omega)
      have e2 : IntKind.i64.wrap ((i : Int) + 2) = ((i + 2 : Nat) : Int) := by rw [wrap64 (by omega) (by omega)]; omega
      rw [e1, e2]
      refine ⟨fun hlt => ⟨fun hpos => ?_, fun _ => ⟨h1, h2⟩⟩, fun _ => ⟨h1, h2⟩⟩
      have hlt : i + 1 < l.length := by simp at hlt; omega
      have hpos : 0 < n := by simpa using hpos
      have hp1 := placeV_lt l[i] n (by omega)
      have hp2 := placeV_lt l[i + 1] n (by omega)
      simp only [Ok.bind_iff, Ok.some_iff, Ok.getN_iff, Place_eq _ (n : Int) (by omega) (by omega), Ok.idxN_iff, Ok.atO_iff, Ok.map_iff]
      refine ⟨by omega, ⟨hp1.1, by omega⟩, hlt, by omega, ⟨hp2.1, ?_⟩, by omega, ?_, ⟨i + 2, rfl, by omega, by simpa using h1, fun x hx => ?_⟩, by omega⟩
      · have := h2 _ (List.getElem_mem (show (placeV l[i] n).toNat < t.length by omega)); omega
      · have := h2 _ (List.getElem_mem (show (placeV l[i] n).toNat < t.length by omega)); omega
      · rcases List.mem_or_eq_of_mem_set hx with hx | hx
        · exact h2 x hx
        · rw [hx, List.length_set]
          exact h2 _ (List.getElem_mem _)
    · rintro ⟨s', t, _⟩ ⟨h1, h2⟩
      simp only at h1 h2
      simp only [FromTable_eq t (fun l hl => by rw [h2 l hl, h1]) (by omega), Ok.some_iff]
      exact ⟨by rw [fromT_length, h1], fromT_valid t, fun x hx => by rw [← h1]; exact fromT_lines t x hx⟩
end Go.Fw
end

section
set_option linter.unusedSimpArgs false
set_option linter.unusedVariables false
namespace Go.Fw
theorem getN_some {α : Type} {xs : List α} {i : Nat} {y : α} (h : xs[i]? = some y) : getI xs (i : Int) = some y := by
  unfold getI; rw [if_pos (by omega), Int.toNat_natCast, h]
end Go.Fw
end

section
set_option linter.unusedSimpArgs false
set_option linter.unusedVariables false
namespace Go.Fw
theorem sum_addq (l : List Nat) (f g : Nat → Nat) : (l.map fun x => f x + g x).sum = (l.map f).sum + (l.map g).sum := by
  induction l with
  | nil => rfl
  | cons a l ih => simp only [List.map_cons, List.sum_cons, ih]; omega
theorem sum_ite (l : List Nat) (p : Nat → Prop) [DecidablePred p] : (l.map fun x => if p x then 1 else 0).sum = (l.filter fun x => decide (p x)).length := by
  induction l with
  | nil => rfl
  | cons a l ih =>
    simp only [List.map_cons, List.sum_cons, ih, List.filter_cons]
    by_cases h : p a
    · simp [h]; omega
    · simp [h]
end Go.Fw
end

section
set_option linter.unusedSimpArgs false
set_option linter.unusedVariables false
namespace Go.Fw
theorem Valid_iff (adj : List (List Int)) : Valid adj ↔ ∀ v, (h : v < adj.length) → adj[v].Pairwise (· < ·) ∧ ∀ k, (hk : k < adj[v].length) → (0 ≤ adj[v][k] ∧ adj[v][k] < adj.length) ∧ adj[v][k] ≠ (v : Int) ∧ (v : Int) ∈ adj.getD (adj[v][k]).toNat [] := by
  constructor
  · rintro ⟨h1, h2, h3⟩ v hv
    refine ⟨(h1 v hv).1, fun k hk => ?_⟩
    have hr := (h1 v hv).2 _ (List.getElem_mem hk)
    refine ⟨hr, fun e => h2 v hv (e ▸ List.getElem_mem hk), ?_⟩
    have hw : (adj[v][k]).toNat < adj.length := by omega
    have := h3 v hv _ hw (by rw [Int.toNat_of_nonneg hr.1]; exact List.getElem_mem hk)
    rw [List.getD, List.getElem?_eq_getElem hw]
    exact this
  · intro h
    refine ⟨fun v hv => ⟨(h v hv).1, fun x hx => ?_⟩, fun v hv hm => ?_, fun v hv w hw hm => ?_⟩
    · obtain ⟨k, hk, rfl⟩ := List.mem_iff_getElem.1 hx
      exact ((h v hv).2 k hk).1
    · obtain ⟨k, hk, e⟩ := List.mem_iff_getElem.1 hm
      exact ((h v hv).2 k hk).2.1 e
    · obtain ⟨k, hk, e⟩ := List.mem_iff_getElem.1 hm
      have := ((h v hv).2 k hk).2.2
      rw [e, Int.toNat_natCast, List.getD, List.getElem?_eq_getElem hw] at this
      exact this
theorem nodup_iff {l : List Int} : l.Nodup ↔ ∀ i, (h : i < l.length) → l[i] ∉ l.take i := by
  unfold List.Nodup
  rw [List.pairwise_iff_getElem]
  constructor
  · intro h i hi hm
    obtain ⟨k, hk, e⟩ := List.mem_iff_getElem.1 hm
    simp only [List.length_take] at hk
    simp only [List.getElem_take] at e
    exact h k i (by omega) hi (by omega) e
  · intro h i j hi hj hij e
    exact h j hj (List.mem_iff_getElem.2 ⟨i, by simp; omega, by simp [e]⟩)
def tabT (adj : List (List Int)) : List (List Bool) := (List.range adj.length).map fun v => (List.range adj.length).map fun (w : Nat) => decide ((w : Int) ∈ adj.getD v [])
theorem tabT_length (adj : List (List Int)) : (tabT adj).length = adj.length := by simp [tabT]
theorem tabT_row {adj : List (List Int)} {v : Nat} (hv : v < adj.length) : (tabT adj)[v]? = some ((List.range adj.length).map fun (w : Nat) => decide ((w : Int) ∈ adj[v])) := by
  simp [tabT, hv, List.getD]
theorem Table_eq {adj : List (List Int)} (hc : ∀ l ∈ adj, l.length < 4611686018427387904) (hn : adj.length ≤ 200) (hr : ∀ v, (h : v < adj.length) → ∀ x ∈ adj[v], 0 ≤ x ∧ x < (adj.length : Int)) : d_sparseref12q_Table ((adj, ()), ()) = some (tabT adj, ()) := by
  rw [← Ok.eq_iff]
  unfold d_sparseref12q_Table
  have hlim : lim = 4294967296 := rfl
  simp only [Ok.bind_iff]
  refine Ok.mono (P := fun q => q.1 = tabT adj) ?_ (by rintro ⟨o, _⟩ h; simp only at h; simp only [Ok.some_iff]; rw [h])
  refine Ok.for (i0 := 0) adj.length (fun i t => t.1 = (tabT adj).take i) rfl (by simp) (Nat.zero_le _) ?_ ?_
  · rintro v ⟨out, _⟩ _ hv ho
    simp only at ho
    have hvl := hc _ (List.getElem_mem hv)
    simp only [Ok.bif_iff, Ok.bind_iff, Ok.madeO_iff, Int.toNat_natCast]
    refine ⟨fun _ => ⟨⟨by omega, by omega, by omega⟩, ?_⟩, fun hf => by simp at hf; omega⟩
    refine Ok.mono (P := fun q => q.1 = out ∧ q.2.1 = (List.range adj.length).map fun (w : Nat) => decide ((w : Int) ∈ adj[v])) ?_ ?_
    · refine Ok.for (i0 := 0) adj[v].length (fun k t => t.1 = out ∧ t.2.1 = (List.range adj.length).map fun (w : Nat) => decide ((w : Int) ∈ adj[v].take k)) rfl ⟨rfl, ?_⟩ (Nat.zero_le _) ?_ ?_
      · apply List.ext_getElem?
        intro k
        simp [List.getElem?_replicate]
        split <;> simp_all
      · rintro k ⟨o, row, _⟩ _ hk ⟨h1, h2⟩
        simp only at h1 h2
        have hx := hr v hv _ (List.getElem_mem hk)
        have hrl : row.length = adj.length := by rw [h2]; simp
        simp only [Ok.bif_iff, Ok.bind_iff, Ok.getN_iff, Ok.idxN_iff, Ok.atO_iff, Ok.some_iff]
        refine ⟨hv, fun _ => ⟨hv, hk, ⟨hx.1, by omega⟩, by omega, wrap_succ (by omega), h1, ?_⟩, fun hf => by simp at hf; omega⟩
        apply List.ext_getElem?
        intro u
        rw [List.getElem?_set, h2, List.getElem?_map, List.getElem?_map]
        rcases Nat.lt_or_ge u adj.length with h | h
        · rw [List.getElem?_range h]
          simp only [Option.map_some, ← take_snoc hk, List.mem_append, List.mem_singleton, List.length_map, List.length_range]
          by_cases hu : (adj[v][k]).toNat = u
          · rw [if_pos hu, if_pos (by omega)]
            have : (u : Int) = adj[v][k] := by omega
            simp [this]
          · rw [if_neg hu]
            have : ¬ (u : Int) = adj[v][k] := by omega
            simp [this]
        · rw [if_neg (by omega), List.getElem?_eq_none (by simpa using h)]; rfl
      · rintro ⟨o, row, _⟩ ⟨h1, h2⟩
        simp only at h1 h2
        simp only [Ok.bif_iff, Ok.bind_iff, Ok.getN_iff, Ok.some_iff]
        refine ⟨hv, fun hf => by simp at hf, fun _ => ⟨h1, ?_⟩⟩
        rw [h2, List.take_length]
    · rintro ⟨o, row, _⟩ ⟨h1, h2⟩
      simp only at h1 h2
      subst h1
      simp only [Ok.bind_iff, Ok.limO_iff, Ok.some_iff]
      refine ⟨by rw [ho]; simp; omega, wrap_succ (by omega), ?_⟩
      rw [ho, h2]
      have := tabT_row hv
      rw [List.take_add_one, this]; rfl
  · rintro ⟨out, _⟩ ho
    simp only at ho
    simp only [Ok.bif_iff, Ok.some_iff]
    refine ⟨fun hf => by simp at hf, fun _ => ?_⟩
    rw [ho, ← tabT_length, List.take_length]
end Go.Fw
end

section
set_option linter.unusedSimpArgs false
set_option linter.unusedVariables false
namespace Go.Fw
def fT {α : Type} (n : Nat) (f : Nat → α) : List α := (List.range n).map f
def upd {α : Type} (f : Nat → α) (i : Nat) (v : α) : Nat → α := fun j => if j = i then v else f j
section
variable {α β γ : Type}
theorem upd_ne (f : Nat → α) {i j : Nat} (v : α) (h : j ≠ i) : upd f i v j = f j := if_neg h
theorem fT_length (n : Nat) (f : Nat → α) : (fT n f).length = n := by simp [fT]
theorem fT_get? (n : Nat) (f : Nat → α) (i : Nat) : (fT n f)[i]? = if i < n then some (f i) else none := by
  unfold fT
  rw [List.getElem?_map]
  rcases Nat.lt_or_ge i n with h | h
  · rw [List.getElem?_range h, if_pos h]; rfl
  · rw [List.getElem?_eq_none (by simpa using h), if_neg (by omega)]; rfl
theorem fT_get {n : Nat} {f : Nat → α} {i : Nat} (h : i < n) : (fT n f)[i]? = some (f i) := by rw [fT_get?, if_pos h]
theorem fT_getElem {n : Nat} {f : Nat → α} {i : Nat} (h : i < (fT n f).length) : (fT n f)[i] = f i := by simp [fT]
theorem fT_congr {n : Nat} {f g : Nat → α} (h : ∀ i, i < n → f i = g i) : fT n f = fT n g := List.map_congr_left fun i hi => h i (List.mem_range.1 hi)
theorem fT_zero (f : Nat → α) : fT 0 f = [] := rfl
theorem fT_succ (n : Nat) (f : Nat → α) : fT (n + 1) f = fT n f ++ [f n] := by simp [fT, List.range_succ]
theorem fT_replicate (n : Nat) (x : α) : List.replicate n x = fT n fun _ => x := by
  apply List.ext_getElem?
  intro i
  rw [List.getElem?_replicate, fT_get?]
theorem fT_set {n : Nat} {f : Nat → α} {i : Nat} (v : α) : (fT n f).set i v = fT n (upd f i v) := by
  apply List.ext_getElem?
  intro j
  rw [List.getElem?_set, fT_get?, fT_get?, fT_length]
  unfold upd
  by_cases h : i = j
  · subst h; simp
  · have h' : ¬ j = i := fun e => h (Eq.symm e)
    simp only [if_neg h, if_neg h']
theorem fT_of (l : List α) (f : Nat → α) (h : ∀ i, (hi : i < l.length) → l[i] = f i) : l = fT l.length f := by
  apply List.ext_getElem?
  intro i
  rw [fT_get?]
  split
  · rename_i hi; rw [List.getElem?_eq_getElem hi, h i hi]
  · rename_i hi; exact List.getElem?_eq_none (by omega)
theorem idxN_nat {n i : Nat} (h : i < n) : idxN n (i : Int) = some i := by
  unfold idxN
  rw [if_pos ⟨by omega, by simpa using h⟩]; simp
theorem atO_some {xs : List α} {k : Nat} {v : α} {f : α → Option β} (h : xs[k]? = some v) : atO xs k f = f v := by unfold atO; rw [h]
theorem atO_fT {n k : Nat} {f : Nat → α} {g : α → Option β} (h : k < n) : atO (fT n f) k g = g (f k) := atO_some (fT_get h)
theorem getI_fT {n k : Nat} {f : Nat → α} (h : k < n) : getI (fT n f) (k : Int) = some (f k) := getN_some (fT_get h)
theorem limO_ok {n : Nat} (h : n ≤ 4294967296) : limO n = some () := if_pos h
theorem madeO_ok {l : Nat} (h : l ≤ 4294967296) : madeO (l : Int) (l : Int) = some l := by
  unfold madeO
  rw [if_pos ⟨by omega, by omega, by have : lim = 4294967296 := rfl; omega⟩]; simp
theorem natO_ok {i : Nat} : natO (i : Int) = some i := by unfold natO; rw [if_pos (by omega)]; simp
theorem leO_ok {a b n : Nat} (h : a ≤ b ∧ b ≤ n) : leO a b n = some () := if_pos h
theorem posO_ok {n : Nat} (h : 0 < n) : posO n = some () := if_pos h
theorem beqI (a b : Int) : (a == b) = decide (a = b) := by
  by_cases h : a = b <;> simp [h]
theorem bneI (a b : Int) : (a != b) = !decide (a = b) := by
  by_cases h : a = b <;> simp [h]
theorem decT {p : Prop} [Decidable p] (h : p) : decide p = true := decide_eq_true h
theorem decF {p : Prop} [Decidable p] (h : ¬ p) : decide p = false := decide_eq_false h
theorem cond_dec {p : Prop} [Decidable p] {x y : α} : (bif decide p then x else y) = if p then x else y := by
  by_cases h : p <;> simp [h]
theorem cond_dec_beq {p : Prop} [Decidable p] {x y : α} : (bif decide p == true then x else y) = if p then x else y := by
  by_cases h : p <;> simp [h]
theorem wrapN {n : Nat} (h : n < 9223372036854775808) : IntKind.i64.wrap (n : Int) = (n : Int) := wrap64 (by omega) (by omega)
theorem wrap_add {a b : Nat} (h : a + b < 9223372036854775808) : IntKind.i64.wrap ((a : Int) + (b : Int)) = ((a + b : Nat) : Int) := by
  rw [wrap64 (by omega) (by omega)]; simp
theorem wrap_pred {a : Nat} (hb : 1 ≤ a) (h : a < 9223372036854775808) : IntKind.i64.wrap ((a : Int) - 1) = ((a - 1 : Nat) : Int) := by
  rw [wrap64 (by omega) (by omega)]; omega
theorem wrap_inc {a : Nat} (h : a + 1 < 9223372036854775808) : IntKind.i64.wrap ((a : Int) + 1) = ((a + 1 : Nat) : Int) := by
  rw [wrap64 (by omega) (by omega)]; omega
end
theorem Ok.of_eq {α : Type} {x : Option α} {y : α} {Q : α → Prop} (h : x = some y) (hq : Q y) : Ok x Q := ⟨y, h, hq⟩
theorem Ok.bind_of {α β : Type} {x : Option α} {f : α → Option β} {P : α → Prop} {Q : β → Prop} (h : Ok x P) (hf : ∀ y, P y → Ok (f y) Q) : Ok (x.bind f) Q :=
  Ok.bind_iff.2 (h.mono hf)
theorem Ok.ite {α : Type} {p : Prop} [Decidable p] {x y : Option α} {Q : α → Prop} (h1 : p → Ok x Q) (h2 : ¬ p → Ok y Q) : Ok (if p then x else y) Q := by
  by_cases h : p
  · rw [if_pos h]; exact h1 h
  · rw [if_neg h]; exact h2 h
theorem bind_eq {α β : Type} {x : Option α} {k : α → Option β} {y : α} {r : Option β} (h : x = some y) (h2 : k y = r) : x.bind k = r := by rw [h]; exact h2
theorem loop_for {τ ρ : Type} {f : Int × τ → Option ((Int × τ) ⊕ ρ)} {r : ρ} {j0 : Int} {t0 : τ} (n : Nat) (I : Nat → τ) (i0 : Nat) (hj : j0 = (i0 : Int)) (ht : t0 = I i0) (hi : i0 ≤ n)
    (hstep : ∀ i, i0 ≤ i → i < n → f ((i : Int), I i) = some (.inl (((i + 1 : Nat) : Int), I (i + 1)))) (hend : f ((n : Int), I n) = some (.inr r)) : loop f (j0, t0) = some r := by
  subst hj ht
  rw [← Ok.eq_iff]
  refine Ok.for n (fun i t => t = I i) rfl rfl hi ?_ ?_
  · rintro i _ h0 h1 rfl
    rw [hstep i h0 h1]
    exact Ok.some_iff.2 ⟨rfl, rfl⟩
  · rintro _ rfl
    rw [hend]
    exact Ok.some_iff.2 rfl
theorem loop_index {f : Int × Unit → Option ((Int × Unit) ⊕ (Unit ⊕ (Int × Unit)))} (n : Nat) (P : Nat → Prop)
    (hstep : ∀ i, i < n → f ((i : Int), ()) = some (open Classical in if P i then .inl (((i + 1 : Nat) : Int), ()) else .inr (.inr ((i : Int), ())))) (hend : f ((n : Int), ()) = some (.inr (.inl ()))) :
    Ok (loop f (0, ())) (fun q => match q with | .inl _ => ∀ i, i < n → P i | .inr r => 0 ≤ r.1 ∧ ¬ ∀ i, i < n → P i) := by
  classical
  refine Ok.for n (fun i _ => ∀ j, j < i → P j) (i0 := 0) rfl (fun j h => by omega) (Nat.zero_le _) ?_ ?_
  · rintro i ⟨⟩ _ h1 hI
    rw [hstep i h1]
    by_cases hp : P i
    · rw [if_pos hp]
      refine Ok.some_iff.2 ⟨rfl, fun j h3 => ?_⟩
      rcases Nat.lt_or_ge j i with h | h
      · exact hI j h
      · obtain rfl : j = i := by omega
        exact hp
    · rw [if_neg hp]
      exact Ok.some_iff.2 ⟨by show (0 : Int) ≤ (i : Int); omega, fun h => hp (h i h1)⟩
  · rintro ⟨⟩ hI
    rw [hend]
    exact Ok.some_iff.2 hI
end Go.Fw
end

section
namespace Go.Fw
inductive WalkP (A : Nat → Nat → Prop) (P : Nat → Prop) : Nat → Nat → Prop
  | one {i j : Nat} : A i j → WalkP A P i j
  | step {i m j : Nat} : A i m → P m → WalkP A P m j → WalkP A P i j
section
variable {A : Nat → Nat → Prop} {P : Nat → Prop}
theorem WalkP.trans {i m j : Nat} (h : WalkP A P i m) (hm : P m) (h2 : WalkP A P m j) : WalkP A P i j := by
  induction h with
  | one h => exact .step h hm h2
  | step h hk _ ih => exact .step h hk (ih hm h2)
theorem WalkP.symm (hA : ∀ a b, A a b → A b a) {i j : Nat} (h : WalkP A P i j) : WalkP A P j i := by
  induction h with
  | one h => exact .one (hA _ _ h)
  | step h hk _ ih => exact ih.trans hk (.one (hA _ _ h))
theorem WalkP.mono {P' : Nat → Prop} (hP : ∀ x, P x → P' x) {i j : Nat} (h : WalkP A P i j) : WalkP A P' i j := by
  induction h with
  | one h => exact .one h
  | step h h2 _ ih => exact .step h (hP _ h2) ih
theorem WalkP.insert_iff {v i j : Nat} : WalkP A (fun x => P x ∨ x = v) i j ↔ WalkP A P i j ∨ (WalkP A P i v ∧ WalkP A P v j) := by
  constructor
  · intro h
    induction h with
    | one h => exact .inl (.one h)
    | @step i m j h hm _ ih =>
      rcases hm with hm | rfl
      · rcases ih with ih | ⟨ih1, ih2⟩
        · exact .inl (.step h hm ih)
        · exact .inr ⟨.step h hm ih1, ih2⟩
      · rcases ih with ih | ⟨_, ih2⟩
        · exact .inr ⟨.one h, ih⟩
        · exact .inr ⟨.one h, ih2⟩
  · rintro (h | ⟨h1, h2⟩)
    · exact h.mono fun x hx => .inl hx
    · exact (h1.mono fun x hx => .inl hx).trans (.inr rfl) (h2.mono fun x hx => .inl hx)
theorem WalkP.none {i j : Nat} : WalkP A (fun _ => False) i j ↔ A i j := by
  constructor
  · intro h
    cases h with
    | one h => exact h
    | step _ h _ => exact h.elim
  · exact .one
end
end Go.Fw
end

section
set_option linter.unusedSimpArgs false
set_option linter.unusedVariables false
namespace Go.Fw
theorem sorted_ext : ∀ {a b : List Int}, a.Pairwise (· < ·) → b.Pairwise (· < ·) → (∀ x, x ∈ a ↔ x ∈ b) → a = b := by
  intro a
  induction a with
  | nil =>
    intro b _ _ h
    cases b with
    | nil => rfl
    | cons y b => exact absurd ((h y).2 (List.mem_cons_self ..)) (by simp)
  | cons x a ih =>
    intro b ha hb h
    cases b with
    | nil => exact absurd ((h x).1 (List.mem_cons_self ..)) (by simp)
    | cons y b =>
      rw [List.pairwise_cons] at ha hb
      have hxy : x = y := by
        have h1 := (h x).1 (List.mem_cons_self ..)
        have h2 := (h y).2 (List.mem_cons_self ..)
        rcases List.mem_cons.1 h1 with h1 | h1
        · exact h1
        · rcases List.mem_cons.1 h2 with h2 | h2
          · exact h2.symm
          · have := hb.1 _ h1; have := ha.1 _ h2; omega
      subst hxy
      rw [ih ha.2 hb.2]
      intro z
      have := h z
      simp only [List.mem_cons] at this
      constructor
      · intro hz
        have h1 := ha.1 _ hz
        rcases this.1 (.inr hz) with h2 | h2
        · omega
        · exact h2
      · intro hz
        have h1 := hb.1 _ hz
        rcases this.2 (.inr hz) with h2 | h2
        · omega
        · exact h2
structure Elim (adj : List (List Int)) (S : Nat → Prop) (T : List (List Bool)) (gone : List Bool) : Prop where
  tl : T.length = adj.length
  rows : ∀ v, (h : v < T.length) → T[v].length = adj.length
  gl : gone.length = adj.length
  gi : ∀ v, (h : v < gone.length) → (gone[v] = true ↔ S v)
  ti : ∀ u w, (hu : u < T.length) → (hw : w < T[u].length) → ¬ S u → ¬ S w → (T[u][w] = true ↔ u ≠ w ∧ WalkP (Nb adj) S u w)
def nbrV (T : List (List Bool)) (gone : List Bool) (v k : Nat) : List Int := ((List.range k).filter fun w => bitT T v w && !gone.getD w false).map fun (w : Nat) => (w : Int)
theorem mem_nbrV {adj : List (List Int)} {S : Nat → Prop} {T : List (List Bool)} {gone : List Bool} (h : Elim adj S T gone) {v w : Nat} (hv : v < adj.length) (hS : ¬ S v) :
    (w : Int) ∈ nbrV T gone v adj.length ↔ w < adj.length ∧ ¬ S w ∧ v ≠ w ∧ WalkP (Nb adj) S v w := by
  unfold nbrV
  simp only [List.mem_map, List.mem_filter, List.mem_range, Bool.and_eq_true, Bool.not_eq_true']
  have key : ∀ w, w < adj.length → ((bitT T v w = true ∧ gone.getD w false = false) ↔ ¬ S w ∧ v ≠ w ∧ WalkP (Nb adj) S v w) := by
    intro w hw
    have h1 : v < T.length := by rw [h.tl]; exact hv
    have h2 : w < T[v].length := by rw [h.rows v h1]; exact hw
    have h3 : w < gone.length := by rw [h.gl]; exact hw
    have h4 : gone.getD w false = gone[w] := by simp [List.getD, h3]
    rw [bitT_get h1 h2, h4, Bool.eq_false_iff, ne_eq, h.gi w h3]
    constructor
    · rintro ⟨g1, g2⟩; exact ⟨g2, (h.ti v w h1 h2 hS g2).1 g1⟩
    · rintro ⟨g1, g2⟩; exact ⟨(h.ti v w h1 h2 hS g1).2 g2, g1⟩
  constructor
  · rintro ⟨a, ⟨h1, h2⟩, h3⟩
    obtain rfl : a = w := by omega
    exact ⟨h1, (key a h1).1 h2⟩
  · exact fun ⟨h1, h2⟩ => ⟨w, ⟨h1, (key w h1).2 h2⟩, rfl⟩
theorem nbrV_length (T : List (List Bool)) (gone : List Bool) (v k : Nat) : (nbrV T gone v k).length ≤ k := by
  unfold nbrV
  rw [List.length_map]
  exact Nat.le_trans (List.length_filter_le _ _) (by simp)
theorem nbrV_rng {T : List (List Bool)} {gone : List Bool} {v k : Nat} {x : Int} (h : x ∈ nbrV T gone v k) : ∃ w : Nat, x = (w : Int) ∧ w < k := by
  unfold nbrV at h
  simp only [List.mem_map, List.mem_filter, List.mem_range] at h
  obtain ⟨a, ⟨h1, _⟩, h3⟩ := h
  exact ⟨a, h3.symm, h1⟩
theorem Neighbours_eq {n : Nat} {T : List (List Bool)} {gone : List Bool} (hT : T.length = n) (hr : ∀ v, (h : v < T.length) → T[v].length = n) (hg : gone.length = n) (hn : n ≤ 4294967296) {v : Nat} (hv : v < n) :
    d_sparseref16q_Elimination_Neighbours (some (T, gone, ()), (v : Int), ()) = some (nbrV T gone v n, ()) := by
  rw [← Ok.eq_iff]
  unfold d_sparseref16q_Elimination_Neighbours
  have hlim : lim = 4294967296 := rfl
  simp only [Ok.bind_iff, Ok.some_iff]
  refine Ok.mono (P := fun q => q.1 = nbrV T gone v n) ?_ (by rintro ⟨o, _⟩ h; simp only at h; rw [h])
  refine Ok.for (i0 := 0) n (fun k t => t.1 = nbrV T gone v k) rfl rfl (Nat.zero_le _) ?_ ?_
  · rintro w ⟨o, _⟩ _ hw ho
    simp only at ho
    have hol := nbrV_length T gone v w
    simp only [Option.bind_some]
    rw [Ok.bif_iff]
    refine ⟨fun _ => ?_, fun hf => by simp at hf; omega⟩
    rw [Ok.bind_iff, Ok.bind_iff]
    have hvT : v < T.length := by omega
    have hwr : w < T[v].length := by rw [hr v hvT]; exact hw
    have hg1 : getI T (v : Int) = some T[v] := getN_some (List.getElem?_eq_getElem hvT)
    have hg2 : getI T[v] (w : Int) = some T[v][w] := getN_some (List.getElem?_eq_getElem hwr)
    have hg3 : getI gone (w : Int) = some (gone.getD w false) := getN_some (by rw [List.getElem?_eq_getElem (by omega)]; simp [List.getD, show w < gone.length by omega])
    refine Ok.mono (P := fun q => q = ((bitT T v w && !gone.getD w false), o, ())) ?_ ?_
    · simp only [hg1, hg2, hg3, Ok.bind_iff, Ok.bif_iff, Ok.some_iff, bitT_get hvT hwr]
      refine ⟨fun h => ?_, fun h => ?_⟩
      · have h : T[v][w] = true := by simpa using h
        rw [h]; rfl
      · have h : T[v][w] = false := by simpa using h
        rw [h]; rfl
    · rintro _ rfl
      simp only [Ok.bif_iff, Ok.bind_iff, Ok.some_iff, Ok.limO_iff]
      refine ⟨fun h => ⟨by rw [ho]; simp; omega, wrap_succ (by omega), ?_⟩, fun h => ⟨wrap_succ (by omega), ?_⟩⟩
      · unfold nbrV at ho ⊢
        rw [List.range_succ, List.filter_append, List.map_append, ← ho]; simp only [List.filter_cons, List.filter_nil]; rw [if_pos h]; rfl
      · unfold nbrV at ho ⊢
        rw [List.range_succ, List.filter_append, List.map_append, ← ho]; simp only [List.filter_cons, List.filter_nil]; rw [if_neg (by rw [h]; simp)]; simp
  · rintro ⟨o, _⟩ ho
    simp only at ho
    simp only [Option.bind_some, Ok.bif_iff, Ok.some_iff]
    exact ⟨fun hf => by simp at hf; omega, fun _ => ho⟩
theorem bit_set {T : List (List Bool)} {k k2 : Nat} (h : k < T.length) (h2 : k2 < T[k].length) (u w : Nat) : bitT (T.set k (T[k].set k2 true)) u w = (bitT T u w || (u == k && w == k2)) := by
  unfold bitT
  simp only [List.getD, List.getElem?_set]
  by_cases hu : k = u
  · subst hu
    rw [if_pos rfl, if_pos h, List.getElem?_eq_getElem h]
    simp only [Option.getD_some, List.getElem?_set]
    by_cases hw : k2 = w
    · subst hw
      rw [if_pos rfl, if_pos h2]; simp
    · rw [if_neg hw]
      have : (w == k2) = false := by rw [beq_eq_false_iff_ne]; omega
      simp [this]
  · rw [if_neg hu]
    have : (u == k) = false := by rw [beq_eq_false_iff_ne]; omega
    simp [this]
theorem nbrV_asc (T : List (List Bool)) (gone : List Bool) (v k : Nat) : (nbrV T gone v k).Pairwise (· < ·) := sorted_filter _ _
theorem Eliminate_tab {n : Nat} {T : List (List Bool)} {gone : List Bool} (hT : T.length = n) (hr : ∀ v, (h : v < T.length) → T[v].length = n) (hg : gone.length = n) (hn : n ≤ 4294967296) {v : Nat} (hv : v < n) :
    Ok (d_sparseref16q_Elimination_Eliminate ((T, gone, ()), (v : Int), ())) (fun r => r.1.2.1 = gone.set v true ∧ r.1.1.length = n ∧ (∀ v, (h : v < r.1.1.length) → r.1.1[v].length = n) ∧
      ∀ u w, u < n → w < n → (bitT r.1.1 u w = true ↔ bitT T u w = true ∨ ((u : Int) ∈ nbrV T gone v n ∧ (w : Int) ∈ nbrV T gone v n ∧ u ≠ w))) := by
  unfold d_sparseref16q_Elimination_Eliminate
  simp only [Neighbours_eq hT hr hg hn hv, Option.bind_some]
  have hLl := nbrV_length T gone v n
  have hLr : ∀ x ∈ nbrV T gone v n, ∃ w : Nat, x = (w : Int) ∧ w < n := fun x hx => nbrV_rng hx
  have hLs := nbrV_asc T gone v n
  generalize nbrV T gone v n = L at hLl hLr hLs
  have uniq : ∀ k k' : Nat, (h : k < L.length) → (h' : k' < L.length) → L[k] = L[k'] → k = k' := fun k k' h h' e => by
    rcases Nat.lt_trichotomy k k' with g | g | g
    · have := (List.pairwise_iff_getElem.1 hLs) k k' h h' g; omega
    · exact g
    · have := (List.pairwise_iff_getElem.1 hLs) k' k h' h g; omega
  simp only [Ok.bind_iff]
  refine Ok.mono (P := fun q : ((List (List Bool)) × ((List Bool) × Unit)) × Unit => q.1.2.1 = gone ∧ q.1.1.length = n ∧ (∀ v, (h : v < q.1.1.length) → q.1.1[v].length = n) ∧
      ∀ u w, u < n → w < n → (bitT q.1.1 u w = true ↔ bitT T u w = true ∨ ((u : Int) ∈ L ∧ (w : Int) ∈ L ∧ u ≠ w))) ?_ ?_
  · refine Ok.for (i0 := 0) L.length (fun i q => q.1.2.1 = gone ∧ q.1.1.length = n ∧ (∀ v, (h : v < q.1.1.length) → q.1.1[v].length = n) ∧
      ∀ u w, u < n → w < n → (bitT q.1.1 u w = true ↔ bitT T u w = true ∨ ((u : Int) ∈ L.take i ∧ (w : Int) ∈ L ∧ u ≠ w))) rfl ⟨rfl, hT, hr, fun u w _ _ => by simp⟩ (Nat.zero_le _) ?_ ?_
    · rintro i ⟨⟨T1, g1, _⟩, _⟩ _ hi ⟨h1, h2, h3, h4⟩
      simp only at h1 h2 h3 h4
      simp only [Ok.bif_iff, Ok.bind_iff]
      refine ⟨fun _ => ?_, fun hf => by simp at hf; omega⟩
      refine Ok.mono (P := fun q : ((List (List Bool)) × ((List Bool) × Unit)) × Unit => q.1.2.1 = gone ∧ q.1.1.length = n ∧ (∀ v, (h : v < q.1.1.length) → q.1.1[v].length = n) ∧
        ∀ u w, u < n → w < n → (bitT q.1.1 u w = true ↔ bitT T u w = true ∨ ((u : Int) ∈ L.take (i + 1) ∧ (w : Int) ∈ L ∧ u ≠ w))) ?_ (by rintro ⟨e, _⟩ h; simp only [Ok.some_iff]; exact ⟨wrap_succ (by omega), h⟩)
      obtain ⟨a, ha, han⟩ := hLr _ (List.getElem_mem hi)
      refine Ok.for (i0 := 0) L.length (fun j q => q.1.2.1 = gone ∧ q.1.1.length = n ∧ (∀ v, (h : v < q.1.1.length) → q.1.1[v].length = n) ∧
        ∀ u w, u < n → w < n → (bitT q.1.1 u w = true ↔ bitT T u w = true ∨ ((u : Int) ∈ L.take i ∧ (w : Int) ∈ L ∧ u ≠ w) ∨ (u = a ∧ (w : Int) ∈ L.take j ∧ u ≠ w))) rfl ⟨h1, h2, h3, fun u w hu hw => by rw [h4 u w hu hw]; simp⟩ (Nat.zero_le _) ?_ ?_
      · rintro j ⟨⟨T2, g2, _⟩, _⟩ _ hj ⟨k1, k2, k3, k4⟩
        simp only at k1 k2 k3 k4
        obtain ⟨b, hb, hbn⟩ := hLr _ (List.getElem_mem hj)
        have ga : getI L (i : Int) = some (a : Int) := getN_some (by rw [List.getElem?_eq_getElem hi, ha])
        have gb : getI L (j : Int) = some (b : Int) := getN_some (by rw [List.getElem?_eq_getElem hj, hb])
        have haT : a < T2.length := by omega
        have hbT : b < T2[a].length := by rw [k3 a haT]; exact hbn
        simp only [Ok.bif_iff, Ok.bind_iff, ga, gb, Ok.some_iff, Ok.idxN_iff, Ok.atO_iff, Ok.map_iff, Int.toNat_natCast]
        refine ⟨fun _ => ⟨fun hne => ⟨⟨by omega, haT⟩, haT, ⟨by omega, hbT⟩, haT, hbT, wrap_succ (by omega), k1, by simpa using k2, fun x hx => ?_, fun u w hu hw => ?_⟩, fun heq => ⟨wrap_succ (by omega), k1, k2, k3, fun u w hu hw => ?_⟩⟩, fun hf => by simp at hf; omega⟩
        · rw [List.getElem_set]
          split
          · rw [List.length_set]; exact k3 a haT
          · exact k3 x (by simpa using hx)
        · have hne : i ≠ j := by simp at hne; omega
          have hab : a ≠ b := fun e => hne (uniq i j hi hj (by rw [ha, hb, e]))
          rw [bit_set haT hbT, Bool.or_eq_true, k4 u w hu hw, ← take_snoc hj, hb, List.mem_append, List.mem_singleton]
          simp only [Bool.and_eq_true, beq_iff_eq]
          constructor
          · rintro ((h | h | ⟨h, h', h''⟩) | ⟨h, h'⟩)
            · exact .inl h
            · exact .inr (.inl h)
            · exact .inr (.inr ⟨h, .inl h', h''⟩)
            · exact .inr (.inr ⟨h, .inr (by omega), by omega⟩)
          · rintro (h | h | ⟨h, h' | h', h''⟩)
            · exact .inl (.inl h)
            · exact .inl (.inr (.inl h))
            · exact .inl (.inr (.inr ⟨h, h', h''⟩))
            · exact .inr ⟨h, by omega⟩
        · have hij : i = j := by simp at heq; omega
          have hab : a = b := by
            subst hij
            rw [ha] at hb; omega
          rw [k4 u w hu hw, ← take_snoc hj, hb, List.mem_append, List.mem_singleton]
          constructor
          · rintro (h | h | ⟨h, h', h''⟩)
            · exact .inl h
            · exact .inr (.inl h)
            · exact .inr (.inr ⟨h, .inl h', h''⟩)
          · rintro (h | h | ⟨h, h' | h', h''⟩)
            · exact .inl h
            · exact .inr (.inl h)
            · exact .inr (.inr ⟨h, h', h''⟩)
            · omega
      · rintro ⟨⟨T2, g2, _⟩, _⟩ ⟨k1, k2, k3, k4⟩
        simp only at k1 k2 k3 k4
        simp only [Ok.bif_iff, Ok.some_iff]
        refine ⟨fun hf => by simp at hf, fun _ => ⟨k1, k2, k3, fun u w hu hw => ?_⟩⟩
        rw [k4 u w hu hw, List.take_length, ← take_snoc hi, ha, List.mem_append, List.mem_singleton]
        constructor
        · rintro (h | ⟨h, h', h''⟩ | ⟨h, h', h''⟩)
          · exact .inl h
          · exact .inr ⟨.inl h, h', h''⟩
          · exact .inr ⟨.inr (by omega), h', h''⟩
        · rintro (h | ⟨h | h, h', h''⟩)
          · exact .inl h
          · exact .inr (.inl ⟨h, h', h''⟩)
          · exact .inr (.inr ⟨by omega, h', h''⟩)
    · rintro ⟨⟨T1, g1, _⟩, _⟩ ⟨h1, h2, h3, h4⟩
      simp only at h1 h2 h3 h4
      simp only [Ok.bif_iff, Ok.some_iff]
      refine ⟨fun hf => by simp at hf, fun _ => ⟨h1, h2, h3, fun u w hu hw => ?_⟩⟩
      rw [h4 u w hu hw, List.take_length]
  · rintro ⟨⟨T1, g1, _⟩, _⟩ ⟨h1, h2, h3, h4⟩
    simp only at h1 h2 h3 h4
    subst h1
    simp only [Ok.bind_iff, Ok.idxN_iff, Ok.atO_iff, Ok.some_iff, Ok.map_iff, Int.toNat_natCast]
    exact ⟨⟨by omega, by omega⟩, by omega, trivial, h2, h3, h4⟩
theorem Eliminate_ok {adj : List (List Int)} (hV : Valid adj) (hn : adj.length ≤ 4294967296) {S : Nat → Prop} {T : List (List Bool)} {gone : List Bool} (h : Elim adj S T gone) {v : Nat} (hv : v < adj.length) (hS : ¬ S v) :
    Ok (d_sparseref16q_Elimination_Eliminate ((T, gone, ()), (v : Int), ())) (fun r => Elim adj (fun x => S x ∨ x = v) r.1.1 r.1.2.1) := by
  refine (Eliminate_tab h.tl h.rows h.gl hn hv).mono ?_
  rintro ⟨⟨T1, g1, _⟩, _⟩ ⟨h1, h2, h3, h4⟩
  simp only at h1 h2 h3 h4 ⊢
  subst h1
  have hs := Nb.symm hV
  refine ⟨h2, h3, by rw [List.length_set]; exact h.gl, fun x hx => ?_, fun u w hu hw hSu hSw => ?_⟩
  · rw [List.getElem_set]
    by_cases hxv : v = x
    · rw [if_pos hxv]; simp [hxv]
    · rw [if_neg hxv, h.gi]
      constructor
      · exact .inl
      · rintro (g | g)
        · exact g
        · exact absurd g.symm hxv
  · have hul : u < adj.length := by omega
    have hwl : w < adj.length := by rw [h3 u hu] at hw; exact hw
    have := h4 u w hul hwl
    rw [bitT_get hu hw] at this
    have huT : u < T.length := by rw [h.tl]; exact hul
    have hwT : w < T[u].length := by rw [h.rows u huT]; exact hwl
    have nu : ¬ S u := fun g => hSu (.inl g)
    have nw : ¬ S w := fun g => hSw (.inl g)
    have uv : v ≠ u := fun g => hSu (.inr g.symm)
    have wv : v ≠ w := fun g => hSw (.inr g.symm)
    rw [this, bitT_get huT hwT, h.ti u w huT hwT nu nw, mem_nbrV h hv hS, mem_nbrV h hv hS, WalkP.insert_iff]
    constructor
    · rintro (⟨g1, g2⟩ | ⟨⟨_, _, _, g2⟩, ⟨_, _, _, g4⟩, g5⟩)
      · exact ⟨g1, .inl g2⟩
      · exact ⟨g5, .inr ⟨g2.symm hs, g4⟩⟩
    · rintro ⟨g1, g2 | ⟨g2, g3⟩⟩
      · exact .inl ⟨g1, g2⟩
      · exact .inr ⟨⟨hul, nu, uv, g2.symm hs⟩, ⟨hwl, nw, wv, g3⟩, g1⟩
theorem Begin_ok {adj : List (List Int)} (hV : Valid adj) (hc : ∀ l ∈ adj, l.length < 4611686018427387904) (hn : adj.length ≤ 200) :
    Ok (d_sparseref16q_Begin ((adj, ()), ())) (fun r => Elim adj (fun _ => False) r.1.1 r.1.2.1) := by
  unfold d_sparseref16q_Begin
  have hlim : lim = 4294967296 := rfl
  simp only [Table_eq hc hn (fun v hv => (hV.asc v hv).2), Option.bind_some, Ok.bind_iff, Ok.madeO_iff, Ok.some_iff, Int.toNat_natCast]
  refine ⟨⟨by omega, by omega, by omega⟩, tabT_length adj, fun v h => ?_, by simp, fun v h => by simp, fun u w hu hw _ _ => ?_⟩
  · simp [tabT]
  · rw [WalkP.none]
    have hul : u < adj.length := by rw [tabT_length] at hu; exact hu
    have hwl : w < adj.length := by simp [tabT] at hw; exact hw
    have e : (tabT adj)[u][w] = decide ((w : Int) ∈ adj[u]) := by simp [tabT, List.getD, hul]
    rw [e, decide_eq_true_eq]
    constructor
    · exact fun hm => ⟨Nb.ne hV ⟨hul, hm⟩, hul, hm⟩
    · exact fun hm => hm.2.2
end Go.Fw
end

section
set_option linter.unusedSimpArgs false
set_option linter.unusedVariables false
namespace Go.Fw
theorem asc_ge {l : List Int} (h : l.Pairwise (· < ·)) (h0 : ∀ x ∈ l, 0 ≤ x) : ∀ k, (hk : k < l.length) → (k : Int) ≤ l[k] := by
  intro k
  induction k with
  | zero => intro hk; exact h0 _ (List.getElem_mem hk)
  | succ k ih =>
    intro hk
    have h1 := ih (by omega)
    have h2 := pairwise_iff.1 h k hk
    omega
theorem AscIn.length {l : List Int} {n : Nat} (h : AscIn l n) : l.length ≤ n := by
  rcases Nat.eq_zero_or_pos l.length with h0 | h0
  · omega
  · have h1 := asc_ge h.1 (fun x hx => (h.2 x hx).1) (l.length - 1) (by omega)
    have h2 := (h.2 _ (List.getElem_mem (show l.length - 1 < l.length by omega))).2
    omega
theorem Valid.rows {adj : List (List Int)} (hV : Valid adj) : ∀ l ∈ adj, l.length ≤ adj.length := by
  intro l hl
  obtain ⟨v, hv, rfl⟩ := List.mem_iff_getElem.1 hl
  exact (hV.asc v hv).length
theorem Valid.hc {adj : List (List Int)} (hV : Valid adj) (hn : adj.length ≤ 200) : ∀ l ∈ adj, l.length < 4611686018427387904 := fun l hl => by
  have := hV.rows l hl; omega
theorem chk_zero {adj : List (List Int)} : chk adj = 0 ↔ adj.length ≤ 200 ∧ Valid adj := by
  unfold chk
  by_cases h : 200 < adj.length
  · rw [if_pos h]; constructor
    · intro h; omega
    · intro h; omega
  · rw [if_neg h]
    by_cases h2 : Valid adj
    · rw [if_pos h2]; exact ⟨fun _ => ⟨by omega, h2⟩, fun _ => rfl⟩
    · rw [if_neg h2]; exact ⟨fun h => by omega, fun h => absurd h.2 h2⟩
end Go.Fw
end

section
set_option linter.unusedSimpArgs false
set_option linter.unusedVariables false
namespace Go.Fw
section
variable {P Q : Nat → Prop} {k : Nat}
end
def PF (n : Nat) (f : Nat → Int) : Prop := ∀ j, j < n → f j = -1 ∨ ((j : Int) < f j ∧ f j < n)
section
variable {n : Nat} {f : Nat → Int} (hf : PF n f)
include hf
end
end Go.Fw
end

section
set_option linter.unusedSimpArgs false
set_option linter.unusedVariables false
namespace Go.Fw
def natL (l : List Nat) : List Int := l.map fun (x : Nat) => (x : Int)
theorem natL_append (a b : List Nat) : natL (a ++ b) = natL a ++ natL b := by simp [natL]
theorem natL_length (a : List Nat) : (natL a).length = a.length := by simp [natL]
section
variable {n : Nat} {f : Nat → Int} (hf : PF n f) (hn : n ≤ 200)
include hf hn
end
end Go.Fw
end

section
set_option linter.unusedSimpArgs false
set_option linter.unusedVariables false
namespace Go.Fw
theorem getD_lt {α : Type} {l : List α} {i : Nat} (h : i < l.length) (d : α) : l.getD i d = l[i] := by
  simp only [List.getD, List.getElem?_eq_getElem h, Option.getD_some]
section
variable {adj : List (List Int)} (hV : Valid adj) (hn : adj.length ≤ 200)
include hV hn
end
end Go.Fw
end

section
set_option linter.unusedSimpArgs false
set_option linter.unusedVariables false
namespace Go.Fw
theorem place_nat (a n : Int) (h : 0 < n) : ∃ m : Nat, placeV a n = (m : Int) ∧ (m : Int) < n := by
  have := placeV_lt a n h
  exact ⟨(placeV a n).toNat, by omega, by omega⟩
end Go.Fw
end

section
namespace Go.Fw
set_option linter.unusedSimpArgs false
set_option linter.unusedVariables false
structure SOrd {α : Type} (lt : α → α → Bool) : Prop where
  asym : ∀ a b, lt a b = true → lt b a = false
  trans : ∀ a b c, lt b a = false → lt c b = false → lt c a = false
theorem SOrd.int : SOrd (fun a b : Int => decide (a < b)) := ⟨fun a b h => by simp at h ⊢; omega, fun a b c h1 h2 => by simp at h1 h2 ⊢; omega⟩
def InsI {α : Type} (lt : α → α → Bool) (g : Nat → α) (i j : Nat) : Prop := ∀ p q, p < q → q ≤ i → q ≠ j → lt (g q) (g p) = false
def SortedI {α : Type} (lt : α → α → Bool) (g : Nat → α) (k : Nat) : Prop := ∀ p q, p < q → q < k → lt (g q) (g p) = false
def swp {α : Type} (g : Nat → α) (j : Nat) : Nat → α := upd (upd g j (g (j - 1))) (j - 1) (g j)
theorem swp_at {α : Type} (g : Nat → α) {j : Nat} (k : Nat) : swp g j k = if k = j - 1 then g j else if k = j then g (j - 1) else g k := rfl
theorem InsI.swp {α : Type} {lt : α → α → Bool} (h : SOrd lt) {g : Nat → α} {i j : Nat} (hI : InsI lt g i j) (hj : 0 < j) (hji : j ≤ i) (hl : lt (g j) (g (j - 1)) = true) : InsI lt (swp g j) i (j - 1) := by
  intro p q hpq hq hne
  rw [swp_at, swp_at, if_neg hne]
  by_cases h1 : q = j
  · subst h1
    rw [if_pos rfl]
    by_cases h2 : p = q - 1
    · rw [if_pos h2]; exact h.asym _ _ hl
    · rw [if_neg h2, if_neg (by omega)]; exact hI p (q - 1) (by omega) (by omega) (by omega)
  · rw [if_neg h1]
    by_cases h2 : p = j - 1
    · rw [if_pos h2]; exact hI j q (by omega) hq h1
    · rw [if_neg h2]
      by_cases h3 : p = j
      · rw [if_pos h3]; exact hI (j - 1) q (by omega) hq h1
      · rw [if_neg h3]; exact hI p q hpq hq h1
theorem InsI.done {α : Type} {lt : α → α → Bool} (h : SOrd lt) {g : Nat → α} {i j : Nat} (hI : InsI lt g i j) (hji : j ≤ i) (hl : j = 0 ∨ lt (g j) (g (j - 1)) = false) : SortedI lt g (i + 1) := by
  intro p q hpq hq
  by_cases h1 : q = j
  · subst h1
    rcases hl with hl | hl
    · omega
    · by_cases h2 : p = q - 1
      · subst h2; exact hl
      · exact h.trans _ _ _ (hI p (q - 1) (by omega) (by omega) (by omega)) hl
  · exact hI p q hpq (by omega) h1
theorem swp_perm {α : Type} {n : Nat} {g : Nat → α} {j : Nat} (hj : 0 < j) (hn : j < n) : (fT n (swp g j)).Perm (fT n g) := by
  have h1 : j < (fT n g).length := by rw [fT_length]; exact hn
  have h2 : j - 1 < (fT n g).length := by rw [fT_length]; omega
  have := List.set_set_perm h1 h2
  rw [fT_getElem, fT_getElem, fT_set, fT_set] at this
  exact this
theorem fT_self {α : Type} [Inhabited α] (l : List α) : l = fT l.length (fun i => l[i]?.getD default) := fT_of l _ (fun i hi => by simp [hi])
theorem insertion_ok (l : List Int) (hl : l.length ≤ 1000) : Ok (d_slices_insertionSortOrdered_int (l, 0, (l.length : Int), ())) (fun r => ∃ g, r.1 = fT l.length g ∧ SortedI (fun a b => decide (a < b)) g l.length ∧ r.1.Perm l) := by
  unfold d_slices_insertionSortOrdered_int
  simp only []
  generalize hn : l.length = n at *
  have h0 : IntKind.i64.wrap (0 + 1) = ((1 : Nat) : Int) := by rw [wrap64] <;> omega
  rw [h0]
  rcases Nat.eq_zero_or_pos n with hz | hpos
  · subst hz
    refine Ok.bind_of (P := fun r => r.1 = l) ?_ ?_
    · refine Ok.loop (fun s => s = (((1 : Nat) : Int), l, ())) (fun _ => 0) rfl ?_
      rintro _ rfl
      simp only [cond_dec]
      rw [if_neg (by omega)]
      exact Ok.some_iff.2 rfl
    · rintro ⟨r, _⟩ rfl
      refine Ok.some_iff.2 ⟨fun _ => 0, ?_, fun p q h1 h2 => by omega, List.Perm.refl _⟩
      show r = []
      exact List.eq_nil_of_length_eq_zero hn
  refine Ok.bind_of (P := fun r => ∃ g, r.1 = fT n g ∧ SortedI (fun a b => decide (a < b)) g n ∧ r.1.Perm l) ?_ (fun r hr => Ok.some_iff.2 hr)
  refine Ok.for n (fun i t => ∃ g, t = (fT n g, ()) ∧ SortedI (fun a b => decide (a < b)) g i ∧ (fT n g).Perm l) rfl ⟨fun i => l[i]?.getD default, ?_, fun p q h1 h2 => by omega, ?_⟩ hpos ?_ ?_
  · rw [← hn, ← fT_self]
  · rw [← hn, ← fT_self]
  · rintro i _ h1 h2 ⟨g, rfl, hS, hP⟩
    simp only [cond_dec]
    rw [if_pos (by omega)]
    refine Ok.bind_of (P := fun r => ∃ g, r = (fT n g, ()) ∧ SortedI (fun a b => decide (a < b)) g (i + 1) ∧ (fT n g).Perm l) ?_ ?_
    · refine Ok.loop (fun s => ∃ (j : Nat) (g : Nat → Int), s = ((j : Int), fT n g, ()) ∧ j ≤ i ∧ InsI (fun a b => decide (a < b)) g i j ∧ (fT n g).Perm l) (fun s => s.1.toNat) ⟨i, g, rfl, Nat.le_refl _, fun p q hpq hq hne => hS p q hpq (by omega), hP⟩ ?_
      rintro _ ⟨j, g, rfl, hj, hI, hP⟩
      simp only [cond_dec_beq]
      by_cases hj0 : 0 < j
      · have hj1 : j - 1 < n := by omega
        have hj2 : j < n := by omega
        simp (disch := omega) only [if_pos, fT_length, wrap_pred, idxN_nat, atO_fT, Option.bind_some, Less_eq, cond_dec]
        by_cases hlt : g j < g (j - 1)
        · rw [if_pos hlt]
          simp (disch := omega) only [Option.bind_some, fT_length, wrap_pred, idxN_nat, atO_fT, fT_set]
          refine Ok.some_iff.2 ⟨⟨j - 1, swp g j, rfl, by omega, hI.swp SOrd.int hj0 hj (by simpa using hlt), (swp_perm hj0 hj2).trans hP⟩, ?_⟩
          show ((j - 1 : Nat) : Int).toNat < ((j : Nat) : Int).toNat
          omega
        · rw [if_neg hlt]
          exact Ok.some_iff.2 ⟨g, rfl, hI.done SOrd.int hj (.inr (by simpa using hlt)), hP⟩
      · rw [if_neg (by omega)]
        exact Ok.some_iff.2 ⟨g, rfl, hI.done SOrd.int hj (.inl (by omega)), hP⟩
    · rintro _ ⟨g, rfl, hS, hP⟩
      simp (disch := omega) only [wrap_inc]
      exact Ok.some_iff.2 ⟨rfl, g, rfl, hS, hP⟩
  · rintro _ ⟨g, rfl, hS, hP⟩
    simp only [cond_dec]
    rw [if_neg (by omega)]
    exact Ok.some_iff.2 ⟨g, rfl, hS, hP⟩
theorem SortedI.pairwise {g : Nat → Int} {n : Nat} (h : SortedI (fun a b => decide (a < b)) g n) : (fT n g).Pairwise (· ≤ ·) := by
  rw [List.pairwise_iff_getElem]
  intro i j hi hj hij
  rw [fT_getElem, fT_getElem]
  have := h i j hij (by simpa [fT_length] using hj)
  simpa using this
theorem Len_ok (n : Nat) (hn : n ≤ 12) : ∃ b, d_math_bits_Len ((n : Int), ()) = some (b, ()) := by
  have : n = 0 ∨ n = 1 ∨ n = 2 ∨ n = 3 ∨ n = 4 ∨ n = 5 ∨ n = 6 ∨ n = 7 ∨ n = 8 ∨ n = 9 ∨ n = 10 ∨ n = 11 ∨ n = 12 := by omega
  rcases this with rfl | rfl | rfl | rfl | rfl | rfl | rfl | rfl | rfl | rfl | rfl | rfl | rfl
  · exact ⟨0, by kernel_rfl⟩
  · exact ⟨1, by kernel_rfl⟩
  · exact ⟨2, by kernel_rfl⟩
  · exact ⟨2, by kernel_rfl⟩
  · exact ⟨3, by kernel_rfl⟩
  · exact ⟨3, by kernel_rfl⟩
  · exact ⟨3, by kernel_rfl⟩
  · exact ⟨3, by kernel_rfl⟩
  · exact ⟨4, by kernel_rfl⟩
  · exact ⟨4, by kernel_rfl⟩
  · exact ⟨4, by kernel_rfl⟩
  · exact ⟨4, by kernel_rfl⟩
  · exact ⟨4, by kernel_rfl⟩
theorem pdq_small (l : List Int) (b : Int) (hl : l.length ≤ 12) : Ok (d_slices_pdqsortOrdered_int (l, 0, (l.length : Int), b, ())) (fun r => r.1.Pairwise (· ≤ ·) ∧ r.1.Perm l) := by
  obtain ⟨r, hr, g, hg, hS, hP⟩ := insertion_ok l (by omega)
  refine ⟨r, ?_, by rw [hg]; exact hS.pairwise, hP⟩
  unfold d_slices_pdqsortOrdered_int
  show fixO (deep r_slices_pdqsortOrdered_intq_s) _ = some r
  rw [fixO_iff r_slices_pdqsortOrdered_intq_mono]
  refine ⟨1, ?_⟩
  have e1 : deep r_slices_pdqsortOrdered_intq_s 1 (l, 0, (l.length : Int), b, ()) = r_slices_pdqsortOrdered_intq_s (deep r_slices_pdqsortOrdered_intq_s 0) (l, 0, (l.length : Int), b, ()) := rfl
  rw [e1]
  unfold r_slices_pdqsortOrdered_intq_s
  dsimp only
  rw [loop_unfold]
  dsimp only
  have hw : IntKind.i64.wrap ((l.length : Int) - 0) = ((l.length : Nat) : Int) := by rw [Int.sub_zero]; exact wrapN (by omega)
  simp only [hw, cond_dec]
  rw [if_pos (by omega), hr]
  rfl
theorem Sort_ok (l : List Int) (hl : l.length ≤ 12) : Ok (d_slices_Sort_int_int (l, ())) (fun r => r.1.Pairwise (· ≤ ·) ∧ r.1.Perm l) := by
  unfold d_slices_Sort_int_int
  simp only []
  rw [wrapUq_eq _ (by omega) (by omega)]
  obtain ⟨b, hb⟩ := Len_ok l.length hl
  rw [hb]
  simp only [Option.bind_some]
  exact Ok.bind_of (pdq_small l b hl) (fun r hr => Ok.some_iff.2 hr)
end Go.Fw
end

section
namespace Go.Fw
set_option linter.unusedSimpArgs false
set_option linter.unusedVariables false
open Go
theorem compact_lt {ys : List Int} (hs : ys.Pairwise (· ≤ ·)) : (Lib.compact ys).length < ys.length ↔ ¬ ys.Nodup := by
  have hlen : (Lib.compact ys).length = ((List.range ys.length).filter (Lib.keeps ys.toArray)).length := by simp [Lib.compact, Lib.compactUpTo]
  have hadj : (∀ j, j < ys.length → Lib.keeps ys.toArray j = true) ↔ ys.Nodup := by
    have hk : ∀ j, (h : j < ys.length) → (Lib.keeps ys.toArray j = true ↔ j = 0 ∨ ys[j] ≠ ys[j - 1]) := fun j h => by
      have h2 : j - 1 < ys.length := by omega
      simp [Lib.keeps, h, h2]
    constructor
    · intro h
      have hlt : ys.Pairwise (· < ·) := by
        rw [pairwise_iff]
        intro k hk2
        have h1 := (hk (k + 1) hk2).1 (h _ hk2)
        have h2 := List.pairwise_iff_getElem.1 hs k (k + 1) (by omega) hk2 (by omega)
        have h3 : ys[k + 1] ≠ ys[k] := by rcases h1 with h1 | h1; omega; exact h1
        omega
      exact hlt.imp (fun h => by omega)
    · intro h j hj
      rw [hk j hj]
      by_cases h0 : j = 0
      · exact .inl h0
      · refine .inr fun e => ?_
        have := (List.getElem_inj h).1 e
        omega
  rw [← hadj, hlen]
  have hle := List.length_filter_le (Lib.keeps ys.toArray) (List.range ys.length)
  rw [List.length_range] at hle
  constructor
  · intro h h2
    rw [List.filter_eq_self.2 (fun j hj => h2 j (List.mem_range.1 hj)), List.length_range] at h
    omega
  · intro h
    rcases Nat.lt_or_ge ((List.range ys.length).filter (Lib.keeps ys.toArray)).length ys.length with h1 | h1
    · exact h1
    · refine absurd (fun j hj => ?_) h
      have e : ((List.range ys.length).filter (Lib.keeps ys.toArray)).length = (List.range ys.length).length := by rw [List.length_range]; omega
      exact List.length_filter_eq_length_iff.1 e j (List.mem_range.2 hj)
theorem twice_eq (l : List Int) (hl : l.length ≤ 12) : d_graph_twice (l, ()) = some (decide (¬ l.Nodup), ()) := by
  obtain ⟨r, hr, hs, hp⟩ := Sort_ok l hl
  have hlen := hp.length_eq
  unfold d_graph_twice twSem
  simp only [hr, Option.map_some, Option.bind_some]
  rw [show Nat.ble l.length 1000000 = true from Nat.ble_eq_true_of_le (by omega)]
  simp only [cond_true]
  rw [show Nat.ble r.1.length 1000000 = true from Nat.ble_eq_true_of_le (by omega)]
  simp only [cond_true, Option.map_some]
  have e : decide ((Lib.compact r.1).length < l.length) = decide (¬ l.Nodup) := by
    rw [decide_eq_decide, ← hlen, compact_lt hs, hp.nodup_iff]
  rw [e]
def mT (n : Nat) (B : Nat → Nat → Bool) : List (List Bool) := fT n fun v => fT n (B v)
theorem mT_length (n : Nat) (B : Nat → Nat → Bool) : (mT n B).length = n := fT_length n _
theorem mT_congr {n : Nat} {B B' : Nat → Nat → Bool} (h : ∀ v w, v < n → w < n → B v w = B' v w) : mT n B = mT n B' := fT_congr fun v hv => fT_congr fun w hw => h v w hv hw
theorem NewSets_eq (n : Nat) (hn : n ≤ 4294967296) : d_graph_NewSets ((n : Int), ()) = some (mT n fun _ _ => false, ()) := by
  unfold d_graph_NewSets
  simp only []
  rw [madeO_ok hn]
  simp only [Option.bind_some]
  refine bind_eq (y := (mT n fun _ _ => false, ())) (loop_for n (fun i => (fT n (fun v => if v < i then List.replicate n false else []), ())) 0 rfl ?_ (Nat.zero_le _) ?_ ?_) rfl
  · rw [fT_replicate]; simp
  · intro i _ hi
    simp (disch := omega) only [fT_length, List.length_replicate, cond_dec, if_pos, Option.bind_some, idxN_nat, atO_fT, fT_set, wrap_inc]
    congr 4
    refine fT_congr fun v hv => ?_
    simp only [upd]
    by_cases h : v = i
    · subst h; rw [if_pos rfl, if_pos (by omega)]
    · rw [if_neg h]
      by_cases h2 : v < i
      · rw [if_pos h2, if_pos (by omega)]
      · rw [if_neg h2, if_neg (by omega)]
  · simp only [List.length_replicate, cond_dec]
    rw [if_neg (by omega)]
    congr 2
    refine congrArg (·, ()) (fT_congr fun v hv => ?_)
    rw [if_pos hv, fT_replicate]
theorem Join_eq {n : Nat} {B : Nat → Nat → Bool} {i j : Nat} (hi : i < n) (hj : j < n) :
    d_graph_Sets_Join (mT n B, (i : Int), (j : Int), ()) = some (mT n (fun a b => B a b || (decide (i ≠ j) && ((decide (a = i) && decide (b = j)) || (decide (a = j) && decide (b = i))))), ()) := by
  unfold d_graph_Sets_Join
  simp only [bneI]
  by_cases h : i = j
  · subst h
    simp only [decide_true, Bool.not_true, cond_false]
    congr 2
    exact mT_congr fun a b _ _ => by simp
  · rw [decF (show ¬ ((i : Int) = (j : Int)) by omega)]
    unfold mT
    simp (disch := omega) only [Bool.not_false, cond_true, fT_length, idxN_nat, Option.bind_some, atO_fT, Option.map_some, fT_set]
    rw [show upd (fun v => fT n (B v)) i (fT n (upd (B i) j true)) j = fT n (B j) from upd_ne _ _ (fun e => h e.symm)]
    simp (disch := omega) only [fT_length, idxN_nat, Option.bind_some, atO_fT, Option.map_some, fT_set]
    congr 2
    refine fT_congr fun a ha => ?_
    simp only [upd]
    by_cases h1 : a = j
    · rw [if_pos h1, h1]
      refine fT_congr fun b hb => ?_
      simp only [upd]
      have h' : ¬ j = i := fun e => h e.symm
      by_cases h2 : b = i
      · simp [h2, h', h]
      · simp [h2, h', h]
    · rw [if_neg h1]
      by_cases h3 : a = i
      · subst h3
        rw [if_pos rfl]
        refine fT_congr fun b hb => ?_
        simp only [upd]
        by_cases h2 : b = j
        · simp [h2, h]
        · simp [h2, h1]
      · rw [if_neg h3]
        refine fT_congr fun b hb => ?_
        simp [h1, h3]
theorem List_eq {n : Nat} (hn : n ≤ 4294967296) {B : Nat → Nat → Bool} {v : Nat} (hv : v < n) : d_graph_Sets_List (mT n B, (v : Int), ()) = some (natL ((List.range n).filter (B v)), ()) := by
  unfold d_graph_Sets_List
  simp only []
  rw [show getI (mT n B) (v : Int) = some (fT n (B v)) from getI_fT hv]
  simp only [Option.bind_some]
  refine bind_eq (y := (natL ((List.range n).filter (B v)), ())) (loop_for n (fun i => (natL ((List.range i).filter (B v)), ())) 0 rfl rfl (Nat.zero_le _) ?_ ?_) rfl
  · intro i _ hi
    have hlen : (natL ((List.range i).filter (B v))).length ≤ i := by rw [natL_length]; have := List.length_filter_le (B v) (List.range i); simpa using this
    have hs : natL ((List.range (i + 1)).filter (B v)) = if B v i = true then natL ((List.range i).filter (B v)) ++ [(i : Int)] else natL ((List.range i).filter (B v)) := by
      rw [List.range_succ, List.filter_append, natL_append]
      by_cases h : B v i = true <;> simp [h, natL]
    simp (disch := omega) only [fT_length, cond_dec, if_pos, getI_fT, Option.bind_some, wrap_inc]
    rw [hs]
    by_cases h : B v i = true
    · rw [if_pos h, h, limO_ok (by simp only [List.length_singleton]; omega)]; rfl
    · rw [if_neg h, Bool.eq_false_iff.2 h]; rfl
  · simp only [fT_length, cond_dec]
    rw [if_neg (by omega)]
end Go.Fw
end

section
namespace Go.Fw
set_option linter.unusedSimpArgs false
set_option linter.unusedVariables false
open Go
def IsPerm (l : List Int) (n : Nat) : Prop := l.length = n ∧ (∀ x ∈ l, 0 ≤ x ∧ x < (n : Int)) ∧ l.Nodup
noncomputable def permE (adj : List (List Int)) (o : List Int) : Int := open Classical in if chk adj ≠ 0 then chk adj else if o.length ≠ adj.length then 2 else if IsPerm o adj.length then 0 else 90
theorem vertex_eq (adj : List (List Int)) (v : Int) : d_graph_vertex ((adj, ()), v, ()) = some (decide (0 ≤ v ∧ v < (adj.length : Int)), ()) := by
  unfold d_graph_vertex
  simp only [cond_dec_beq]
  by_cases h : v ≥ 0
  · rw [if_pos h]
    congr 2
    exact decide_eq_decide.2 ⟨fun h2 => ⟨h, h2⟩, fun h2 => h2.2⟩
  · rw [if_neg h, decF (fun h2 => h h2.1)]
theorem outside_eq (adj : List (List Int)) (o : List Int) (ho : o.length < 4611686018427387904) : d_slices_ContainsFunc_int_int_q0 (o, ((some (adj, ())), ()), ()) = some (decide (¬ ∀ x ∈ o, 0 ≤ x ∧ x < (adj.length : Int)), ()) := by
  classical
  unfold d_slices_ContainsFunc_int_int_q0 d_slices_IndexFunc_int_int_q0
  simp only []
  rw [← Ok.eq_iff]
  have hall : (∀ x ∈ o, 0 ≤ x ∧ x < (adj.length : Int)) ↔ ∀ i, i < o.length → ∀ h : i < o.length, 0 ≤ o[i] ∧ o[i] < (adj.length : Int) :=
    ⟨fun h i _ hi => h _ (List.getElem_mem hi), fun h x hx => by obtain ⟨i, hi, rfl⟩ := List.mem_iff_getElem.1 hx; exact h i hi hi⟩
  refine Ok.bind_of (P := fun r => decide (r.1 ≥ 0) = decide (¬ ∀ x ∈ o, 0 ≤ x ∧ x < (adj.length : Int))) ?_ (fun r hr => Ok.some_iff.2 (by rw [hr]))
  refine Ok.bind_of (loop_index o.length (fun i => ∀ h : i < o.length, 0 ≤ o[i] ∧ o[i] < (adj.length : Int)) ?_ ?_) ?_
  · intro i hi
    simp (disch := omega) only [cond_dec, if_pos, getN_some (List.getElem?_eq_getElem hi), Option.bind_some, wrap_inc]
    unfold d_graph_Permuted_1q_q0
    simp only [Option.bind_some, vertex_eq]
    by_cases h : 0 ≤ o[i] ∧ o[i] < (adj.length : Int)
    · rw [decT h, if_pos (fun _ => h)]; rfl
    · rw [decF h, if_neg (fun h2 => h (h2 hi))]; rfl
  · simp (disch := omega) only [cond_dec, if_neg]
  · rintro (q | q) hq
    · refine Ok.some_iff.2 ?_
      rw [decF (by decide), decF (fun h => h (hall.2 hq))]
    · refine Ok.some_iff.2 ?_
      rw [decT (show q.1 ≥ 0 from hq.1), decT (show ¬ ∀ x ∈ o, 0 ≤ x ∧ x < (adj.length : Int) from fun h => hq.2 (hall.1 h))]
theorem Permuted_eq {adj : List (List Int)} (hc : ∀ l ∈ adj, l.length < 4611686018427387904) (o : List Int) (ho : adj.length ≤ 200 → Valid adj → adj.length ≤ 12) (ho2 : o.length < 4611686018427387904) :
    d_graph_Permuted ((adj, ()), o, ()) = some (permE adj o, ()) := by
  classical
  unfold d_graph_Permuted permE
  simp only [Check_eq adj hc, Option.bind_some, bneI]
  by_cases h0 : chk adj = 0
  · obtain ⟨hn, hV⟩ := chk_zero.1 h0
    have h12 := ho hn hV
    rw [decT h0]
    simp only [Bool.not_true, cond_false, h0, ne_eq, not_true_eq_false, if_false]
    by_cases hl : o.length = adj.length
    · rw [decT (show (((o.length : Nat) : Int) = ((adj.length : Nat) : Int)) by omega)]
      simp only [Bool.not_true, cond_false, hl, not_true_eq_false, if_false]
      rw [outside_eq adj o ho2]
      simp only [Option.bind_some]
      by_cases h1 : ∀ x ∈ o, 0 ≤ x ∧ x < (adj.length : Int)
      · rw [decF (not_not_intro h1)]
        simp only [beq_self_eq_true, cond_true]
        rw [twice_eq o (by omega)]
        simp only [Option.bind_some, cond_dec]
        by_cases h2 : o.Nodup
        · rw [if_neg (not_not_intro h2), if_pos ⟨hl, h1, h2⟩]
        · rw [if_pos h2, if_neg (fun h => h2 h.2.2)]
      · rw [decT h1, if_neg (fun h => h1 h.2.1)]
        rfl
    · rw [decF (show ¬ (((o.length : Nat) : Int) = ((adj.length : Nat) : Int)) by omega)]
      simp only [Bool.not_false, cond_true, hl, not_false_eq_true, if_true]
  · rw [decF h0]
    simp only [Bool.not_false, cond_true, h0, ne_eq, not_false_eq_true, if_true]
end Go.Fw
end

section
namespace Go.Fw
set_option linter.unusedSimpArgs false
set_option linter.unusedVariables false
open Go
section
variable {adj : List (List Int)} (hc : ∀ l ∈ adj, l.length < 4611686018427387904)
include hc
end
theorem perm_iff {adj : List (List Int)} {o : List Int} (hn : adj.length ≤ 200) (hV : Valid adj) (hp : IsPerm o adj.length) : permE adj o = 0 := by
  unfold permE
  rw [if_neg (not_not_intro (chk_zero.2 ⟨hn, hV⟩)), if_neg (not_not_intro hp.1), if_pos hp]
end Go.Fw
end

section
namespace Go.Fw
set_option linter.unusedSimpArgs false
set_option linter.unusedVariables false
open Go
theorem perm_natL {o : List Int} {n : Nat} (h : o.Perm (natL (List.range n))) : IsPerm o n := by
  refine ⟨by rw [h.length_eq, natL_length, List.length_range], fun x hx => ?_, ?_⟩
  · obtain ⟨y, hy, rfl⟩ := List.mem_map.1 (h.mem_iff.1 hx)
    have := List.mem_range.1 hy; omega
  · rw [h.nodup_iff]
    exact List.Pairwise.map _ (fun a b hab e => hab (by omega)) List.nodup_range
theorem Shuffle_perm (l : List Int) (n : Nat) (hn : n ≤ 4000) : Ok (d_sparsekit_Shuffle (l, (n : Int), ())) (fun r => r.1.Perm (natL (List.range n))) := by
  unfold d_sparsekit_Shuffle
  simp only []
  have h1 : loop (σ := (Int × (List Int) × Unit)) (ρ := ((List Int) × Unit)) (fun (i_6, left_7, _) =>
      (bif (decide (i_6 < (n : Int))) then (
      (limO ((left_7).length + ([i_6]).length)).bind fun _ =>
      some (.inl ((IntKind.i64.wrap (i_6 + ((1) : Int))), (left_7 ++ [i_6]), ()))) else (
      some (.inr (left_7, ()))))) (((0) : Int), [], ()) = some (natL (List.range n), ()) := by
    refine loop_for n (fun i => (natL (List.range i), ())) 0 rfl rfl (Nat.zero_le _) ?_ ?_
    · intro i _ hi
      have : natL (List.range (i + 1)) = natL (List.range i) ++ [(i : Int)] := by rw [List.range_succ, natL_append]; rfl
      have hl : (natL (List.range i)).length + [((i : Nat) : Int)].length ≤ 4294967296 := by rw [natL_length, List.length_range]; simp only [List.length_singleton]; omega
      simp (disch := omega) only [cond_dec, if_pos, limO_ok hl, Option.bind_some, wrap_inc, this]
    · simp (disch := omega) only [cond_dec, if_neg]
  rw [h1]
  simp only [Option.bind_some]
  refine Ok.bind_of (P := fun r => r.1.Perm (natL (List.range n))) ?_ (fun r hr => Ok.some_iff.2 hr)
  refine Ok.for n (fun k t => t.1.length + k = n ∧ (t.1 ++ t.2.1).Perm (natL (List.range n))) (i0 := 0) rfl ⟨by rw [natL_length, List.length_range]; omega, by rw [List.append_nil]⟩ (Nat.zero_le _) ?_ ?_
  · rintro k ⟨left, out, ⟨⟩⟩ _ hk ⟨hlen, hP⟩
    have hpl := hP.length_eq
    rw [natL_length, List.length_range, List.length_append] at hpl
    dsimp only at hlen hpl
    simp (disch := omega) only [cond_dec, if_pos]
    refine Ok.bind_of (P := fun q => q.1.length + (k + 1) = n ∧ (q.1 ++ q.2.1).Perm (natL (List.range n))) ?_ ?_
    · refine Ok.bind_of (P := fun q => ∃ at' : Nat, q = ((at' : Int), left, out, ()) ∧ at' < left.length) ?_ ?_
      · refine Ok.ite (fun h => ?_) (fun h => Ok.some_iff.2 ⟨0, rfl, by omega⟩)
        have hkl : k < l.length := by omega
        rw [getN_some (List.getElem?_eq_getElem hkl)]
        simp only [Option.bind_some]
        rw [Place_eq _ _ (by omega) (by omega)]
        simp only [Option.bind_some]
        obtain ⟨m, hm, hm2⟩ := place_nat l[k] (left.length : Int) (by omega)
        exact Ok.some_iff.2 ⟨m, by rw [hm], by omega⟩
      · rintro _ ⟨m, rfl, hm⟩
        have hat : left[m]? = some left[m] := List.getElem?_eq_getElem hm
        have e1 : left = left.take m ++ left[m] :: left.drop (m + 1) := by rw [List.getElem_cons_drop, List.take_append_drop]
        have l1 : (left.take m).length = m := by rw [List.length_take]; omega
        have l2 : (left.drop (m + 1)).length = left.length - (m + 1) := List.length_drop ..
        simp (disch := omega) only [idxN_nat, Option.bind_some, atO_some hat, List.length_singleton, limO_ok, natO_ok, leO_ok, posO_ok, Option.map_some, wrap_inc, List.drop_zero, List.take_length, l1, l2]
        refine Ok.some_iff.2 ⟨?_, ?_⟩
        · simp only [List.length_append, l1, l2]; omega
        · refine List.Perm.trans ?_ hP
          conv => rhs; rw [e1]
          simp only [List.append_assoc, List.cons_append]
          refine List.Perm.append_left _ ?_
          rw [← List.append_assoc]
          exact List.perm_append_singleton _ _
    · rintro ⟨left2, out2, ⟨⟩⟩ hq
      simp (disch := omega) only [wrap_inc]
      exact Ok.some_iff.2 ⟨rfl, hq⟩
  · rintro ⟨left, out, ⟨⟩⟩ ⟨hlen, hP⟩
    dsimp only at hlen hP
    simp (disch := omega) only [cond_dec, if_neg]
    have : left = [] := List.eq_nil_of_length_eq_zero (by omega)
    subst this
    exact Ok.some_iff.2 (by simpa using hP)
end Go.Fw
end
