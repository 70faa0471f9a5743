/-
  Parts of the proof: Dn20b, Dn22, Dn17, Dn16, Dn16b, Tw16: the framework (Fw), pure forms (Dn), plain laws (Pl, Th), calls of functions (Ok).
-/
import Derived.RangeFuncBox
import Derived.RangeFuncLeaves
import Derived.Shelf.Abstract
import Derived.WalkKit
import Derived.OwnWalkIn
import Derived.TacticsInMore
import Derived.LoopNIn
import Derived.LoopIn
import Derived.Maps.AppendAt
import Derived.Shelf.Slices.CompactI
import Derived.Lib.OwnBridge
import Derived.Test.YtcjbeengjcmpaaaProg
import Derived.KernelRfl
import Derived.Test.YtcjbeengjcmpaaaB9f077a61

set_option linter.all false
section
namespace Go.Fw
noncomputable def d_sparselaw20q_small : (((List (List Int)) × Unit) × Unit) → Option (Bool × Unit) := fun (g_1, _) =>
 Option.bind (α := Unit ⊕ (Bool × Unit)) (
 (bif ((decide ((((g_1.1).length : Nat) : Int) > ((12) : Int))) == true) then ((bif ((decide ((((g_1.1).length : Nat) : Int) ≤ ((200) : Int))) == false) then ((bif (decide ((((g_1.1).length : Nat) : Int) > ((400) : Int))) then (
 some (.inr (false, ()))) else (
 some (.inl ())))) else (some (.inr (false, ()))))) else ((bif (decide ((((g_1.1).length : Nat) : Int) > ((400) : Int))) then (
 some (.inr (false, ()))) else (
 some (.inl ())))))) fun q => match q with
 | .inl _ => (
 (loop (σ := (Int × Unit)) (ρ := (Unit ⊕ (Bool × Unit))) (fun (v_2, _) =>
 (bif (decide (v_2 < (((g_1.1).length : Nat) : Int))) then (
 (getI g_1.1 v_2).bind fun y3 =>
 (bif (decide ((((y3).length : Nat) : Int) > ((20) : Int))) then (
 some (.inr (.inr (false, ())))) else (
 some (.inl ((IntKind.i64.wrap (v_2 + ((1) : Int))), ()))))) else (
 some (.inr (.inl ()))))) (((0) : Int), ())).bind fun q => match q with
 | .inl _ => (
 some (true, ()))
 | .inr r => some r)
 | .inr r => some r
noncomputable def d_sparseref20q_Row : (((List (List Int)) × Unit) × Int × Unit) → Option ((List Int) × Int × Unit) := fun (g_1, i_2, _) =>
 (d_sparseref20q_Columns (g_1, ())).bind fun (r15, r16, _) =>
 (bif (r16 != ((0) : Int)) then (
 some ([], r16, ())) else (
 Option.bind (α := Unit ⊕ ((List Int) × Int × Unit)) (
 Option.bind (α := (Bool × Unit)) (
 (bif ((decide (i_2 < ((0) : Int))) == false) then (some ((decide (i_2 ≥ (((r15).length : Nat) : Int))), ())) else (some (true, ())))) fun (s_17, _) =>
 (bif s_17 then (
 some (.inr ([], ((3) : Int), ()))) else (
 some (.inl ())))) fun q => match q with
 | .inl _ => (
 (loop (σ := (Int × (List Int) × Unit)) (ρ := ((List Int) × Unit)) (fun (j_18, out_19, _) =>
 (bif (decide (j_18 < (((r15).length : Nat) : Int))) then (
 Option.bind (α := ((List Int) × Unit)) (
 (getI r15 j_18).bind fun y20 =>
 (d_sparsekit_In (y20, i_2, ())).bind fun (r21, _) =>
 (bif r21 then (
 (limO ((out_19).length + ([j_18]).length)).bind fun _ =>
 some ((out_19 ++ [j_18]), ())) else (
 some (out_19, ())))) fun (out_22, _) =>
 some (.inl ((IntKind.i64.wrap (j_18 + ((1) : Int))), out_22, ()))) else (
 some (.inr (out_19, ()))))) (((0) : Int), [], ())).bind fun (out_23, _) =>
 some (out_23, ((0) : Int), ()))
 | .inr r => some r))
noncomputable def d_graph_vertex : (((List (List Int)) × Unit) × Int × Unit) → Option (Bool × Unit) := fun (g_1, v_2, _) =>
 (bif ((decide (v_2 ≥ ((0) : Int))) == true) then (some ((decide (v_2 < (((g_1.1).length : Nat) : Int))), ())) else (some (false, ())))
noncomputable def d_math_bits_Len32 : (Int × Unit) → Option (Int × Unit) := fun (x_1, _) =>
 Option.bind (α := (Int × Int × Unit)) (
 (bif (decide (x_1 ≥ ((65536) : Int))) then (
 (shrO IntKind.u32 x_1 ((16) : Int)).bind fun y2 =>
 some (y2, ((16) : Int), ())) else (
 some (x_1, ((0) : Int), ())))) fun (x_3, n_4, _) =>
 Option.bind (α := (Int × Int × Unit)) (
 (bif (decide (x_3 ≥ ((256) : Int))) then (
 (shrO IntKind.u32 x_3 ((8) : Int)).bind fun y5 =>
 some (y5, (IntKind.i64.wrap (n_4 + ((8) : Int))), ())) else (
 some (x_3, n_4, ())))) fun (x_6, n_7, _) =>
 (strI lenTab (IntKind.u8.wrap x_6)).bind fun c8 =>
 some ((IntKind.i64.wrap (n_7 + (IntKind.i64.wrap c8))), ())
noncomputable def d_math_bits_Len64 : (Int × Unit) → Option (Int × Unit) := fun (x_1, _) =>
 Option.bind (α := (Int × Int × Unit)) (
 (bif (decide (x_1 ≥ ((4294967296) : Int))) then (
 (shrO IntKind.u64 x_1 ((32) : Int)).bind fun y2 =>
 some (y2, ((32) : Int), ())) else (
 some (x_1, ((0) : Int), ())))) fun (x_3, n_4, _) =>
 Option.bind (α := (Int × Int × Unit)) (
 (bif (decide (x_3 ≥ ((65536) : Int))) then (
 (shrO IntKind.u64 x_3 ((16) : Int)).bind fun y5 =>
 some (y5, (IntKind.i64.wrap (n_4 + ((16) : Int))), ())) else (
 some (x_3, n_4, ())))) fun (x_6, n_7, _) =>
 Option.bind (α := (Int × Int × Unit)) (
 (bif (decide (x_6 ≥ ((256) : Int))) then (
 (shrO IntKind.u64 x_6 ((8) : Int)).bind fun y8 =>
 some (y8, (IntKind.i64.wrap (n_7 + ((8) : Int))), ())) else (
 some (x_6, n_7, ())))) fun (x_9, n_10, _) =>
 (strI lenTab (IntKind.u8.wrap x_9)).bind fun c11 =>
 some ((IntKind.i64.wrap (n_10 + (IntKind.i64.wrap c11))), ())
noncomputable def d_math_bits_Len : (Int × Unit) → Option (Int × Unit) := fun (x_1, _) =>
 (d_math_bits_Len64 (x_1, ())).bind fun (r2, _) =>
 some (r2, ())
noncomputable def d_slices_insertionSortOrdered_int : ((List Int) × Int × Int × Unit) → Option ((List Int) × Unit) := fun (data_1, a_2, b_3, _) =>
 (loop (σ := (Int × (List Int) × Unit)) (ρ := ((List Int) × Unit)) (fun (i_4, data_5, _) =>
 (bif (decide (i_4 < b_3)) then (
 (loop (σ := (Int × (List Int) × Unit)) (ρ := ((List Int) × Unit)) (fun (j_6, data_7, _) =>
 Option.bind (α := ((List Int) × Unit) ⊕ ((Int × (List Int) × Unit) ⊕ ((List Int) × Unit))) (
 (bif ((decide (j_6 > a_2)) == true) then ((idxN (data_7).length j_6).bind fun k8 =>
 ((atO data_7 k8 fun e9 => some e9)).bind fun y10 =>
 (idxN (data_7).length (IntKind.i64.wrap (j_6 - ((1) : Int)))).bind fun k11 =>
 ((atO data_7 k11 fun e12 => some e12)).bind fun y13 =>
 (d_cmp_Less_int (y10, y13, ())).bind fun (r14, _) =>
 (bif r14 then (
 some (.inl (data_7, ()))) else (
 some (.inr (.inr (data_7, ())))))) else (some (.inr (.inr (data_7, ())))))) fun q => match q with
 | .inl (data_15, _) => (
 (idxN (data_15).length (IntKind.i64.wrap (j_6 - ((1) : Int)))).bind fun k16 =>
 ((atO data_15 k16 fun e17 => some e17)).bind fun y18 =>
 (idxN (data_15).length j_6).bind fun k19 =>
 ((atO data_15 k19 fun e20 => some e20)).bind fun y21 =>
 (idxN (data_15).length j_6).bind fun k22 =>
 ((atO data_15 k22 fun _ => some ((data_15).set k22 y18))).bind fun z24 =>
 (idxN (z24).length (IntKind.i64.wrap (j_6 - ((1) : Int)))).bind fun k25 =>
 ((atO z24 k25 fun _ => some ((z24).set k25 y21))).bind fun z27 =>
 some (.inl ((IntKind.i64.wrap (j_6 - ((1) : Int))), z27, ())))
 | .inr r => some r) (i_4, data_5, ())).bind fun (data_28, _) =>
 some (.inl ((IntKind.i64.wrap (i_4 + ((1) : Int))), data_28, ()))) else (
 some (.inr (data_5, ()))))) ((IntKind.i64.wrap (a_2 + ((1) : Int))), data_1, ())).bind fun (data_29, _) =>
 some (data_29, ())
noncomputable def d_slices_siftDownOrdered_int : ((List Int) × Int × Int × Int × Unit) → Option ((List Int) × Unit) := fun (data_1, lo_2, hi_3, first_4, _) =>
 (loop (σ := (Int × (List Int) × Unit)) (ρ := (((List Int) × Unit) ⊕ ((List Int) × Unit))) (fun (root_5, data_6, _) =>
 (bif (decide ((IntKind.i64.wrap ((IntKind.i64.wrap (((2) : Int) * root_5)) + ((1) : Int))) ≥ hi_3)) then (
 some (.inr (.inl (data_6, ())))) else (
 Option.bind (α := (Int × (List Int) × Unit)) (
 Option.bind (α := (Bool × (List Int) × Unit)) (
 (bif ((decide ((IntKind.i64.wrap ((IntKind.i64.wrap ((IntKind.i64.wrap (((2) : Int) * root_5)) + ((1) : Int))) + ((1) : Int))) < hi_3)) == true) then ((idxN (data_6).length (IntKind.i64.wrap (first_4 + (IntKind.i64.wrap ((IntKind.i64.wrap (((2) : Int) * root_5)) + ((1) : Int)))))).bind fun k7 =>
 ((atO data_6 k7 fun e8 => some e8)).bind fun y9 =>
 (idxN (data_6).length (IntKind.i64.wrap ((IntKind.i64.wrap (first_4 + (IntKind.i64.wrap ((IntKind.i64.wrap (((2) : Int) * root_5)) + ((1) : Int))))) + ((1) : Int)))).bind fun k10 =>
 ((atO data_6 k10 fun e11 => some e11)).bind fun y12 =>
 (d_cmp_Less_int (y9, y12, ())).bind fun (r13, _) =>
 some (r13, data_6, ())) else (some (false, data_6, ())))) fun (s_14, data_15, _) =>
 (bif s_14 then (
 some ((IntKind.i64.wrap ((IntKind.i64.wrap ((IntKind.i64.wrap (((2) : Int) * root_5)) + ((1) : Int))) + ((1) : Int))), data_15, ())) else (
 some ((IntKind.i64.wrap ((IntKind.i64.wrap (((2) : Int) * root_5)) + ((1) : Int))), data_15, ())))) fun (child_16, data_17, _) =>
 (idxN (data_17).length (IntKind.i64.wrap (first_4 + root_5))).bind fun k18 =>
 ((atO data_17 k18 fun e19 => some e19)).bind fun y20 =>
 (idxN (data_17).length (IntKind.i64.wrap (first_4 + child_16))).bind fun k21 =>
 ((atO data_17 k21 fun e22 => some e22)).bind fun y23 =>
 (d_cmp_Less_int (y20, y23, ())).bind fun (r24, _) =>
 (bif (!r24) then (
 some (.inr (.inr (data_17, ())))) else (
 (idxN (data_17).length (IntKind.i64.wrap (first_4 + child_16))).bind fun k25 =>
 ((atO data_17 k25 fun e26 => some e26)).bind fun y27 =>
 (idxN (data_17).length (IntKind.i64.wrap (first_4 + root_5))).bind fun k28 =>
 ((atO data_17 k28 fun e29 => some e29)).bind fun y30 =>
 (idxN (data_17).length (IntKind.i64.wrap (first_4 + root_5))).bind fun k31 =>
 ((atO data_17 k31 fun _ => some ((data_17).set k31 y27))).bind fun z33 =>
 (idxN (z33).length (IntKind.i64.wrap (first_4 + child_16))).bind fun k34 =>
 ((atO z33 k34 fun _ => some ((z33).set k34 y30))).bind fun z36 =>
 some (.inl (child_16, z36, ()))))))) (lo_2, data_1, ())).bind fun q => match q with
 | .inl (data_37, _) => (
 some (data_37, ()))
 | .inr r => some r
noncomputable def d_slices_heapSortOrdered_int : ((List Int) × Int × Int × Unit) → Option ((List Int) × Unit) := fun (data_1, a_2, b_3, _) =>
 (quoO IntKind.i64 (IntKind.i64.wrap ((IntKind.i64.wrap (b_3 - a_2)) - ((1) : Int))) ((2) : Int)).bind fun y4 =>
 (loop (σ := (Int × (List Int) × Unit)) (ρ := ((List Int) × Unit)) (fun (i_5, data_6, _) =>
 (bif (decide (i_5 ≥ ((0) : Int))) then (
 (d_slices_siftDownOrdered_int (data_6, i_5, (IntKind.i64.wrap (b_3 - a_2)), a_2, ())).bind fun (m7, _) =>
 some (.inl ((IntKind.i64.wrap (i_5 - ((1) : Int))), m7, ()))) else (
 some (.inr (data_6, ()))))) (y4, data_1, ())).bind fun (data_8, _) =>
 (loop (σ := (Int × (List Int) × Unit)) (ρ := ((List Int) × Unit)) (fun (i_9, data_10, _) =>
 (bif (decide (i_9 ≥ ((0) : Int))) then (
 (idxN (data_10).length (IntKind.i64.wrap (a_2 + i_9))).bind fun k11 =>
 ((atO data_10 k11 fun e12 => some e12)).bind fun y13 =>
 (idxN (data_10).length a_2).bind fun k14 =>
 ((atO data_10 k14 fun e15 => some e15)).bind fun y16 =>
 (idxN (data_10).length a_2).bind fun k17 =>
 ((atO data_10 k17 fun _ => some ((data_10).set k17 y13))).bind fun z19 =>
 (idxN (z19).length (IntKind.i64.wrap (a_2 + i_9))).bind fun k20 =>
 ((atO z19 k20 fun _ => some ((z19).set k20 y16))).bind fun z22 =>
 (d_slices_siftDownOrdered_int (z22, ((0) : Int), i_9, a_2, ())).bind fun (m23, _) =>
 some (.inl ((IntKind.i64.wrap (i_9 - ((1) : Int))), m23, ()))) else (
 some (.inr (data_10, ()))))) ((IntKind.i64.wrap ((IntKind.i64.wrap (b_3 - a_2)) - ((1) : Int))), data_8, ())).bind fun (data_24, _) =>
 some (data_24, ())
noncomputable def d_slices_nextPowerOfTwo : (Int × Unit) → Option (Int × Unit) := fun (length_1, _) =>
 (d_math_bits_Len ((IntKind.u64.wrap length_1), ())).bind fun (r2, _) =>
 (shlO IntKind.u64 ((1) : Int) r2).bind fun y3 =>
 some (y3, ())
noncomputable def d_slices_xorshift_Next : (Int × Unit) → Option (Int × Int × Unit) := fun (r_1, _) =>
 (shlO IntKind.u64 r_1 ((13) : Int)).bind fun y2 =>
 (shrO IntKind.u64 (xorI IntKind.u64 r_1 y2) ((7) : Int)).bind fun y3 =>
 (shlO IntKind.u64 (xorI IntKind.u64 (xorI IntKind.u64 r_1 y2) y3) ((17) : Int)).bind fun y4 =>
 some ((xorI IntKind.u64 (xorI IntKind.u64 (xorI IntKind.u64 r_1 y2) y3) y4), (xorI IntKind.u64 (xorI IntKind.u64 (xorI IntKind.u64 r_1 y2) y3) y4), ())
noncomputable def d_slices_breakPatternsOrdered_int : ((List Int) × Int × Int × Unit) → Option ((List Int) × Unit) := fun (data_1, a_2, b_3, _) =>
 (bif (decide ((IntKind.i64.wrap (b_3 - a_2)) ≥ ((8) : Int))) then (
 (d_slices_nextPowerOfTwo ((IntKind.i64.wrap (b_3 - a_2)), ())).bind fun (r4, _) =>
 (quoO IntKind.i64 (IntKind.i64.wrap (b_3 - a_2)) ((4) : Int)).bind fun y5 =>
 (loop (σ := (Int × (List Int) × Int × Unit)) (ρ := ((List Int) × Unit)) (fun (idx_6, data_7, random_8, _) =>
 (quoO IntKind.i64 (IntKind.i64.wrap (b_3 - a_2)) ((4) : Int)).bind fun y9 =>
 (bif (decide (idx_6 ≤ (IntKind.i64.wrap ((IntKind.i64.wrap (a_2 + (IntKind.i64.wrap (y9 * ((2) : Int))))) + ((1) : Int))))) then (
 Option.bind (α := ((List Int) × Int × Unit)) (
 (d_slices_xorshift_Next (random_8, ())).bind fun (m10, r11, _) =>
 Option.bind (α := (Int × (List Int) × Int × Unit)) (
 (bif (decide ((IntKind.i64.wrap (andI IntKind.u64 r11 (IntKind.u64.wrap (r4 - ((1) : Int))))) ≥ (IntKind.i64.wrap (b_3 - a_2)))) then (
 some ((IntKind.i64.wrap ((IntKind.i64.wrap (andI IntKind.u64 r11 (IntKind.u64.wrap (r4 - ((1) : Int))))) - (IntKind.i64.wrap (b_3 - a_2)))), data_7, m10, ())) else (
 some ((IntKind.i64.wrap (andI IntKind.u64 r11 (IntKind.u64.wrap (r4 - ((1) : Int))))), data_7, m10, ())))) fun (other_12, data_13, random_14, _) =>
 (idxN (data_13).length (IntKind.i64.wrap (a_2 + other_12))).bind fun k15 =>
 ((atO data_13 k15 fun e16 => some e16)).bind fun y17 =>
 (idxN (data_13).length idx_6).bind fun k18 =>
 ((atO data_13 k18 fun e19 => some e19)).bind fun y20 =>
 (idxN (data_13).length idx_6).bind fun k21 =>
 ((atO data_13 k21 fun _ => some ((data_13).set k21 y17))).bind fun z23 =>
 (idxN (z23).length (IntKind.i64.wrap (a_2 + other_12))).bind fun k24 =>
 ((atO z23 k24 fun _ => some ((z23).set k24 y20))).bind fun z26 =>
 some (z26, random_14, ())) fun (data_27, random_28, _) =>
 some (.inl ((IntKind.i64.wrap (idx_6 + ((1) : Int))), data_27, random_28, ()))) else (
 some (.inr (data_7, ()))))) ((IntKind.i64.wrap ((IntKind.i64.wrap (a_2 + (IntKind.i64.wrap (y5 * ((2) : Int))))) - ((1) : Int))), data_1, (IntKind.u64.wrap (IntKind.i64.wrap (b_3 - a_2))), ())).bind fun (data_29, _) =>
 some (data_29, ())) else (
 some (data_1, ())))
noncomputable def d_slices_order2Ordered_int : ((List Int) × Int × Int × Int × Unit) → Option (Int × Int × Int × Unit) := fun (data_1, a_2, b_3, swaps_4, _) =>
 (getI data_1 b_3).bind fun y5 =>
 (getI data_1 a_2).bind fun y6 =>
 (d_cmp_Less_int (y5, y6, ())).bind fun (r7, _) =>
 (bif r7 then (
 some ((IntKind.i64.wrap (swaps_4 + ((1) : Int))), b_3, a_2, ())) else (
 some (swaps_4, a_2, b_3, ())))
noncomputable def d_slices_medianOrdered_int : ((List Int) × Int × Int × Int × Int × Unit) → Option (Int × Int × Unit) := fun (data_1, a_2, b_3, c_4, swaps_5, _) =>
 (d_slices_order2Ordered_int (data_1, a_2, b_3, swaps_5, ())).bind fun (m6, r7, r8, _) =>
 (d_slices_order2Ordered_int (data_1, r8, c_4, m6, ())).bind fun (m9, r10, _, _) =>
 (d_slices_order2Ordered_int (data_1, r7, r10, m9, ())).bind fun (m12, _, r14, _) =>
 some (m12, r14, ())
noncomputable def d_slices_medianAdjacentOrdered_int : ((List Int) × Int × Int × Unit) → Option (Int × Int × Unit) := fun (data_1, a_2, swaps_3, _) =>
 (d_slices_medianOrdered_int (data_1, (IntKind.i64.wrap (a_2 - ((1) : Int))), a_2, (IntKind.i64.wrap (a_2 + ((1) : Int))), swaps_3, ())).bind fun (m4, r5, _) =>
 some (m4, r5, ())
noncomputable def d_slices_choosePivotOrdered_int : ((List Int) × Int × Int × Unit) → Option (Int × Int × Unit) := fun (data_1, a_2, b_3, _) =>
 (quoO IntKind.i64 (IntKind.i64.wrap (b_3 - a_2)) ((4) : Int)).bind fun y4 =>
 (quoO IntKind.i64 (IntKind.i64.wrap (b_3 - a_2)) ((4) : Int)).bind fun y5 =>
 (quoO IntKind.i64 (IntKind.i64.wrap (b_3 - a_2)) ((4) : Int)).bind fun y6 =>
 Option.bind (α := (Int × Int × Unit)) (
 (bif (decide ((IntKind.i64.wrap (b_3 - a_2)) ≥ ((8) : Int))) then (
 Option.bind (α := (Int × Int × Int × Int × Unit)) (
 (bif (decide ((IntKind.i64.wrap (b_3 - a_2)) ≥ ((50) : Int))) then (
 (d_slices_medianAdjacentOrdered_int (data_1, (IntKind.i64.wrap (a_2 + (IntKind.i64.wrap (y4 * ((1) : Int))))), (0 : Int), ())).bind fun (m7, r8, _) =>
 (d_slices_medianAdjacentOrdered_int (data_1, (IntKind.i64.wrap (a_2 + (IntKind.i64.wrap (y5 * ((2) : Int))))), m7, ())).bind fun (m9, r10, _) =>
 (d_slices_medianAdjacentOrdered_int (data_1, (IntKind.i64.wrap (a_2 + (IntKind.i64.wrap (y6 * ((3) : Int))))), m9, ())).bind fun (m11, r12, _) =>
 some (r8, r10, r12, m11, ())) else (
 some ((IntKind.i64.wrap (a_2 + (IntKind.i64.wrap (y4 * ((1) : Int))))), (IntKind.i64.wrap (a_2 + (IntKind.i64.wrap (y5 * ((2) : Int))))), (IntKind.i64.wrap (a_2 + (IntKind.i64.wrap (y6 * ((3) : Int))))), (0 : Int), ())))) fun (i_13, j_14, k_15, swaps_16, _) =>
 (d_slices_medianOrdered_int (data_1, i_13, j_14, k_15, swaps_16, ())).bind fun (m17, r18, _) =>
 some (r18, m17, ())) else (
 some ((IntKind.i64.wrap (a_2 + (IntKind.i64.wrap (y5 * ((2) : Int))))), (0 : Int), ())))) fun (j_19, swaps_20, _) =>
 (bif (swaps_20 == ((0) : Int)) then (
 some (j_19, ((1) : Int), ())) else (
 (bif (swaps_20 == ((12) : Int)) then (
 some (j_19, ((2) : Int), ())) else (
 some (j_19, ((0) : Int), ())))))
noncomputable def d_slices_reverseRangeOrdered_int : ((List Int) × Int × Int × Unit) → Option ((List Int) × Unit) := fun (data_1, a_2, b_3, _) =>
 (loop (σ := (Int × Int × (List Int) × Unit)) (ρ := ((List Int) × Unit)) (fun (i_4, j_5, data_6, _) =>
 (bif (decide (i_4 < j_5)) then (
 (idxN (data_6).length j_5).bind fun k7 =>
 ((atO data_6 k7 fun e8 => some e8)).bind fun y9 =>
 (idxN (data_6).length i_4).bind fun k10 =>
 ((atO data_6 k10 fun e11 => some e11)).bind fun y12 =>
 (idxN (data_6).length i_4).bind fun k13 =>
 ((atO data_6 k13 fun _ => some ((data_6).set k13 y9))).bind fun z15 =>
 (idxN (z15).length j_5).bind fun k16 =>
 ((atO z15 k16 fun _ => some ((z15).set k16 y12))).bind fun z18 =>
 some (.inl ((IntKind.i64.wrap (i_4 + ((1) : Int))), (IntKind.i64.wrap (j_5 - ((1) : Int))), z18, ()))) else (
 some (.inr (data_6, ()))))) (a_2, (IntKind.i64.wrap (b_3 - ((1) : Int))), data_1, ())).bind fun (data_19, _) =>
 some (data_19, ())
noncomputable def d_slices_partialInsertionSortOrdered_int : ((List Int) × Int × Int × Unit) → Option ((List Int) × Bool × Unit) := fun (data_1, a_2, b_3, _) =>
 (loop (σ := (Int × Int × (List Int) × Unit)) (ρ := (((List Int) × Unit) ⊕ ((List Int) × Bool × Unit))) (fun (i_4, j_5, data_6, _) =>
 (bif (decide (j_5 < ((5) : Int))) then (
 Option.bind (α := (Int × (List Int) × Unit) ⊕ ((Int × Int × (List Int) × Unit) ⊕ (((List Int) × Unit) ⊕ ((List Int) × Bool × Unit)))) (
 (loop (σ := (Int × (List Int) × Unit)) (ρ := (Int × (List Int) × Unit)) (fun (i_7, data_8, _) =>
 Option.bind (α := ((List Int) × Unit) ⊕ ((Int × (List Int) × Unit) ⊕ (Int × (List Int) × Unit))) (
 (bif ((decide (i_7 < b_3)) == true) then ((idxN (data_8).length i_7).bind fun k9 =>
 ((atO data_8 k9 fun e10 => some e10)).bind fun y11 =>
 (idxN (data_8).length (IntKind.i64.wrap (i_7 - ((1) : Int)))).bind fun k12 =>
 ((atO data_8 k12 fun e13 => some e13)).bind fun y14 =>
 (d_cmp_Less_int (y11, y14, ())).bind fun (r15, _) =>
 (bif (!r15) then (
 some (.inl (data_8, ()))) else (
 some (.inr (.inr (i_7, data_8, ())))))) else (some (.inr (.inr (i_7, data_8, ())))))) fun q => match q with
 | .inl (data_16, _) => (
 some (.inl ((IntKind.i64.wrap (i_7 + ((1) : Int))), data_16, ())))
 | .inr r => some r) (i_4, data_6, ())).bind fun (i_17, data_18, _) =>
 (bif (i_17 == b_3) then (
 some (.inr (.inr (.inr (data_18, true, ()))))) else (
 (bif (decide ((IntKind.i64.wrap (b_3 - a_2)) < ((50) : Int))) then (
 some (.inr (.inr (.inr (data_18, false, ()))))) else (
 (idxN (data_18).length (IntKind.i64.wrap (i_17 - ((1) : Int)))).bind fun k19 =>
 ((atO data_18 k19 fun e20 => some e20)).bind fun y21 =>
 (idxN (data_18).length i_17).bind fun k22 =>
 ((atO data_18 k22 fun e23 => some e23)).bind fun y24 =>
 (idxN (data_18).length i_17).bind fun k25 =>
 ((atO data_18 k25 fun _ => some ((data_18).set k25 y21))).bind fun z27 =>
 (idxN (z27).length (IntKind.i64.wrap (i_17 - ((1) : Int)))).bind fun k28 =>
 ((atO z27 k28 fun _ => some ((z27).set k28 y24))).bind fun z30 =>
 Option.bind (α := ((List Int) × Unit)) (
 (bif (decide ((IntKind.i64.wrap (i_17 - a_2)) ≥ ((2) : Int))) then (
 (loop (σ := (Int × (List Int) × Unit)) (ρ := ((List Int) × Unit)) (fun (j_31, data_32, _) =>
 (bif (decide (j_31 ≥ ((1) : Int))) then (
 (idxN (data_32).length j_31).bind fun k33 =>
 ((atO data_32 k33 fun e34 => some e34)).bind fun y35 =>
 (idxN (data_32).length (IntKind.i64.wrap (j_31 - ((1) : Int)))).bind fun k36 =>
 ((atO data_32 k36 fun e37 => some e37)).bind fun y38 =>
 (d_cmp_Less_int (y35, y38, ())).bind fun (r39, _) =>
 (bif (!r39) then (
 some (.inr (data_32, ()))) else (
 (idxN (data_32).length (IntKind.i64.wrap (j_31 - ((1) : Int)))).bind fun k40 =>
 ((atO data_32 k40 fun e41 => some e41)).bind fun y42 =>
 (idxN (data_32).length j_31).bind fun k43 =>
 ((atO data_32 k43 fun e44 => some e44)).bind fun y45 =>
 (idxN (data_32).length j_31).bind fun k46 =>
 ((atO data_32 k46 fun _ => some ((data_32).set k46 y42))).bind fun z48 =>
 (idxN (z48).length (IntKind.i64.wrap (j_31 - ((1) : Int)))).bind fun k49 =>
 ((atO z48 k49 fun _ => some ((z48).set k49 y45))).bind fun z51 =>
 some (.inl ((IntKind.i64.wrap (j_31 - ((1) : Int))), z51, ()))))) else (
 some (.inr (data_32, ()))))) ((IntKind.i64.wrap (i_17 - ((1) : Int))), z30, ())).bind fun (data_52, _) =>
 some (data_52, ())) else (
 some (z30, ())))) fun (data_53, _) =>
 (bif (decide ((IntKind.i64.wrap (b_3 - i_17)) ≥ ((2) : Int))) then (
 (loop (σ := (Int × (List Int) × Unit)) (ρ := ((List Int) × Unit)) (fun (j_54, data_55, _) =>
 (bif (decide (j_54 < b_3)) then (
 (idxN (data_55).length j_54).bind fun k56 =>
 ((atO data_55 k56 fun e57 => some e57)).bind fun y58 =>
 (idxN (data_55).length (IntKind.i64.wrap (j_54 - ((1) : Int)))).bind fun k59 =>
 ((atO data_55 k59 fun e60 => some e60)).bind fun y61 =>
 (d_cmp_Less_int (y58, y61, ())).bind fun (r62, _) =>
 (bif (!r62) then (
 some (.inr (data_55, ()))) else (
 (idxN (data_55).length (IntKind.i64.wrap (j_54 - ((1) : Int)))).bind fun k63 =>
 ((atO data_55 k63 fun e64 => some e64)).bind fun y65 =>
 (idxN (data_55).length j_54).bind fun k66 =>
 ((atO data_55 k66 fun e67 => some e67)).bind fun y68 =>
 (idxN (data_55).length j_54).bind fun k69 =>
 ((atO data_55 k69 fun _ => some ((data_55).set k69 y65))).bind fun z71 =>
 (idxN (z71).length (IntKind.i64.wrap (j_54 - ((1) : Int)))).bind fun k72 =>
 ((atO z71 k72 fun _ => some ((z71).set k72 y68))).bind fun z74 =>
 some (.inl ((IntKind.i64.wrap (j_54 + ((1) : Int))), z74, ()))))) else (
 some (.inr (data_55, ()))))) ((IntKind.i64.wrap (i_17 + ((1) : Int))), data_53, ())).bind fun (data_75, _) =>
 some (.inl (i_17, data_75, ()))) else (
 some (.inl (i_17, data_53, ()))))))))) fun q => match q with
 | .inl (i_76, data_77, _) => (
 some (.inl (i_76, (IntKind.i64.wrap (j_5 + ((1) : Int))), data_77, ())))
 | .inr r => some r) else (
 some (.inr (.inl (data_6, ())))))) ((IntKind.i64.wrap (a_2 + ((1) : Int))), ((0) : Int), data_1, ())).bind fun q => match q with
 | .inl (data_78, _) => (
 some (data_78, false, ()))
 | .inr r => some r
noncomputable def d_slices_partitionEqualOrdered_int : ((List Int) × Int × Int × Int × Unit) → Option ((List Int) × Int × Unit) := fun (data_1, a_2, b_3, pivot_4, _) =>
 (idxN (data_1).length pivot_4).bind fun k5 =>
 ((atO data_1 k5 fun e6 => some e6)).bind fun y7 =>
 (idxN (data_1).length a_2).bind fun k8 =>
 ((atO data_1 k8 fun e9 => some e9)).bind fun y10 =>
 (idxN (data_1).length a_2).bind fun k11 =>
 ((atO data_1 k11 fun _ => some ((data_1).set k11 y7))).bind fun z13 =>
 (idxN (z13).length pivot_4).bind fun k14 =>
 ((atO z13 k14 fun _ => some ((z13).set k14 y10))).bind fun z16 =>
 (loop (σ := (Int × Int × (List Int) × Unit)) (ρ := (Int × (List Int) × Unit)) (fun (i_17, j_18, data_19, _) =>
 (loop (σ := (Int × (List Int) × Unit)) (ρ := (Int × (List Int) × Unit)) (fun (i_20, data_21, _) =>
 Option.bind (α := ((List Int) × Unit) ⊕ ((Int × (List Int) × Unit) ⊕ (Int × (List Int) × Unit))) (
 (bif ((decide (i_20 ≤ j_18)) == true) then ((idxN (data_21).length a_2).bind fun k22 =>
 ((atO data_21 k22 fun e23 => some e23)).bind fun y24 =>
 (idxN (data_21).length i_20).bind fun k25 =>
 ((atO data_21 k25 fun e26 => some e26)).bind fun y27 =>
 (d_cmp_Less_int (y24, y27, ())).bind fun (r28, _) =>
 (bif (!r28) then (
 some (.inl (data_21, ()))) else (
 some (.inr (.inr (i_20, data_21, ())))))) else (some (.inr (.inr (i_20, data_21, ())))))) fun q => match q with
 | .inl (data_29, _) => (
 some (.inl ((IntKind.i64.wrap (i_20 + ((1) : Int))), data_29, ())))
 | .inr r => some r) (i_17, data_19, ())).bind fun (i_30, data_31, _) =>
 (loop (σ := (Int × (List Int) × Unit)) (ρ := (Int × (List Int) × Unit)) (fun (j_32, data_33, _) =>
 Option.bind (α := ((List Int) × Unit) ⊕ ((Int × (List Int) × Unit) ⊕ (Int × (List Int) × Unit))) (
 (bif ((decide (i_30 ≤ j_32)) == true) then ((idxN (data_33).length a_2).bind fun k34 =>
 ((atO data_33 k34 fun e35 => some e35)).bind fun y36 =>
 (idxN (data_33).length j_32).bind fun k37 =>
 ((atO data_33 k37 fun e38 => some e38)).bind fun y39 =>
 (d_cmp_Less_int (y36, y39, ())).bind fun (r40, _) =>
 (bif r40 then (
 some (.inl (data_33, ()))) else (
 some (.inr (.inr (j_32, data_33, ())))))) else (some (.inr (.inr (j_32, data_33, ())))))) fun q => match q with
 | .inl (data_41, _) => (
 some (.inl ((IntKind.i64.wrap (j_32 - ((1) : Int))), data_41, ())))
 | .inr r => some r) (j_18, data_31, ())).bind fun (j_42, data_43, _) =>
 (bif (decide (i_30 > j_42)) then (
 some (.inr (i_30, data_43, ()))) else (
 (idxN (data_43).length j_42).bind fun k44 =>
 ((atO data_43 k44 fun e45 => some e45)).bind fun y46 =>
 (idxN (data_43).length i_30).bind fun k47 =>
 ((atO data_43 k47 fun e48 => some e48)).bind fun y49 =>
 (idxN (data_43).length i_30).bind fun k50 =>
 ((atO data_43 k50 fun _ => some ((data_43).set k50 y46))).bind fun z52 =>
 (idxN (z52).length j_42).bind fun k53 =>
 ((atO z52 k53 fun _ => some ((z52).set k53 y49))).bind fun z55 =>
 some (.inl ((IntKind.i64.wrap (i_30 + ((1) : Int))), (IntKind.i64.wrap (j_42 - ((1) : Int))), z55, ()))))) ((IntKind.i64.wrap (a_2 + ((1) : Int))), (IntKind.i64.wrap (b_3 - ((1) : Int))), z16, ())).bind fun (i_56, data_57, _) =>
 some (data_57, i_56, ())
noncomputable def d_slices_partitionOrdered_int : ((List Int) × Int × Int × Int × Unit) → Option ((List Int) × Int × Bool × Unit) := fun (data_1, a_2, b_3, pivot_4, _) =>
 (idxN (data_1).length pivot_4).bind fun k5 =>
 ((atO data_1 k5 fun e6 => some e6)).bind fun y7 =>
 (idxN (data_1).length a_2).bind fun k8 =>
 ((atO data_1 k8 fun e9 => some e9)).bind fun y10 =>
 (idxN (data_1).length a_2).bind fun k11 =>
 ((atO data_1 k11 fun _ => some ((data_1).set k11 y7))).bind fun z13 =>
 (idxN (z13).length pivot_4).bind fun k14 =>
 ((atO z13 k14 fun _ => some ((z13).set k14 y10))).bind fun z16 =>
 (loop (σ := (Int × (List Int) × Unit)) (ρ := (Int × (List Int) × Unit)) (fun (i_17, data_18, _) =>
 Option.bind (α := ((List Int) × Unit) ⊕ ((Int × (List Int) × Unit) ⊕ (Int × (List Int) × Unit))) (
 (bif ((decide (i_17 ≤ (IntKind.i64.wrap (b_3 - ((1) : Int))))) == true) then ((idxN (data_18).length i_17).bind fun k19 =>
 ((atO data_18 k19 fun e20 => some e20)).bind fun y21 =>
 (idxN (data_18).length a_2).bind fun k22 =>
 ((atO data_18 k22 fun e23 => some e23)).bind fun y24 =>
 (d_cmp_Less_int (y21, y24, ())).bind fun (r25, _) =>
 (bif r25 then (
 some (.inl (data_18, ()))) else (
 some (.inr (.inr (i_17, data_18, ())))))) else (some (.inr (.inr (i_17, data_18, ())))))) fun q => match q with
 | .inl (data_26, _) => (
 some (.inl ((IntKind.i64.wrap (i_17 + ((1) : Int))), data_26, ())))
 | .inr r => some r) ((IntKind.i64.wrap (a_2 + ((1) : Int))), z16, ())).bind fun (i_27, data_28, _) =>
 (loop (σ := (Int × (List Int) × Unit)) (ρ := (Int × (List Int) × Unit)) (fun (j_29, data_30, _) =>
 Option.bind (α := ((List Int) × Unit) ⊕ ((Int × (List Int) × Unit) ⊕ (Int × (List Int) × Unit))) (
 (bif ((decide (i_27 ≤ j_29)) == true) then ((idxN (data_30).length j_29).bind fun k31 =>
 ((atO data_30 k31 fun e32 => some e32)).bind fun y33 =>
 (idxN (data_30).length a_2).bind fun k34 =>
 ((atO data_30 k34 fun e35 => some e35)).bind fun y36 =>
 (d_cmp_Less_int (y33, y36, ())).bind fun (r37, _) =>
 (bif (!r37) then (
 some (.inl (data_30, ()))) else (
 some (.inr (.inr (j_29, data_30, ())))))) else (some (.inr (.inr (j_29, data_30, ())))))) fun q => match q with
 | .inl (data_38, _) => (
 some (.inl ((IntKind.i64.wrap (j_29 - ((1) : Int))), data_38, ())))
 | .inr r => some r) ((IntKind.i64.wrap (b_3 - ((1) : Int))), data_28, ())).bind fun (j_39, data_40, _) =>
 (bif (decide (i_27 > j_39)) then (
 (idxN (data_40).length a_2).bind fun k41 =>
 ((atO data_40 k41 fun e42 => some e42)).bind fun y43 =>
 (idxN (data_40).length j_39).bind fun k44 =>
 ((atO data_40 k44 fun e45 => some e45)).bind fun y46 =>
 (idxN (data_40).length j_39).bind fun k47 =>
 ((atO data_40 k47 fun _ => some ((data_40).set k47 y43))).bind fun z49 =>
 (idxN (z49).length a_2).bind fun k50 =>
 ((atO z49 k50 fun _ => some ((z49).set k50 y46))).bind fun z52 =>
 some (z52, j_39, true, ())) else (
 (idxN (data_40).length j_39).bind fun k53 =>
 ((atO data_40 k53 fun e54 => some e54)).bind fun y55 =>
 (idxN (data_40).length i_27).bind fun k56 =>
 ((atO data_40 k56 fun e57 => some e57)).bind fun y58 =>
 (idxN (data_40).length i_27).bind fun k59 =>
 ((atO data_40 k59 fun _ => some ((data_40).set k59 y55))).bind fun z61 =>
 (idxN (z61).length j_39).bind fun k62 =>
 ((atO z61 k62 fun _ => some ((z61).set k62 y58))).bind fun z64 =>
 (loop (σ := (Int × Int × (List Int) × Unit)) (ρ := (Int × (List Int) × Unit)) (fun (i_65, j_66, data_67, _) =>
 (loop (σ := (Int × (List Int) × Unit)) (ρ := (Int × (List Int) × Unit)) (fun (i_68, data_69, _) =>
 Option.bind (α := ((List Int) × Unit) ⊕ ((Int × (List Int) × Unit) ⊕ (Int × (List Int) × Unit))) (
 (bif ((decide (i_68 ≤ j_66)) == true) then ((idxN (data_69).length i_68).bind fun k70 =>
 ((atO data_69 k70 fun e71 => some e71)).bind fun y72 =>
 (idxN (data_69).length a_2).bind fun k73 =>
 ((atO data_69 k73 fun e74 => some e74)).bind fun y75 =>
 (d_cmp_Less_int (y72, y75, ())).bind fun (r76, _) =>
 (bif r76 then (
 some (.inl (data_69, ()))) else (
 some (.inr (.inr (i_68, data_69, ())))))) else (some (.inr (.inr (i_68, data_69, ())))))) fun q => match q with
 | .inl (data_77, _) => (
 some (.inl ((IntKind.i64.wrap (i_68 + ((1) : Int))), data_77, ())))
 | .inr r => some r) (i_65, data_67, ())).bind fun (i_78, data_79, _) =>
 (loop (σ := (Int × (List Int) × Unit)) (ρ := (Int × (List Int) × Unit)) (fun (j_80, data_81, _) =>
 Option.bind (α := ((List Int) × Unit) ⊕ ((Int × (List Int) × Unit) ⊕ (Int × (List Int) × Unit))) (
 (bif ((decide (i_78 ≤ j_80)) == true) then ((idxN (data_81).length j_80).bind fun k82 =>
 ((atO data_81 k82 fun e83 => some e83)).bind fun y84 =>
 (idxN (data_81).length a_2).bind fun k85 =>
 ((atO data_81 k85 fun e86 => some e86)).bind fun y87 =>
 (d_cmp_Less_int (y84, y87, ())).bind fun (r88, _) =>
 (bif (!r88) then (
 some (.inl (data_81, ()))) else (
 some (.inr (.inr (j_80, data_81, ())))))) else (some (.inr (.inr (j_80, data_81, ())))))) fun q => match q with
 | .inl (data_89, _) => (
 some (.inl ((IntKind.i64.wrap (j_80 - ((1) : Int))), data_89, ())))
 | .inr r => some r) (j_66, data_79, ())).bind fun (j_90, data_91, _) =>
 (bif (decide (i_78 > j_90)) then (
 some (.inr (j_90, data_91, ()))) else (
 (idxN (data_91).length j_90).bind fun k92 =>
 ((atO data_91 k92 fun e93 => some e93)).bind fun y94 =>
 (idxN (data_91).length i_78).bind fun k95 =>
 ((atO data_91 k95 fun e96 => some e96)).bind fun y97 =>
 (idxN (data_91).length i_78).bind fun k98 =>
 ((atO data_91 k98 fun _ => some ((data_91).set k98 y94))).bind fun z100 =>
 (idxN (z100).length j_90).bind fun k101 =>
 ((atO z100 k101 fun _ => some ((z100).set k101 y97))).bind fun z103 =>
 some (.inl ((IntKind.i64.wrap (i_78 + ((1) : Int))), (IntKind.i64.wrap (j_90 - ((1) : Int))), z103, ()))))) ((IntKind.i64.wrap (i_27 + ((1) : Int))), (IntKind.i64.wrap (j_39 - ((1) : Int))), z64, ())).bind fun (j_104, data_105, _) =>
 (idxN (data_105).length a_2).bind fun k106 =>
 ((atO data_105 k106 fun e107 => some e107)).bind fun y108 =>
 (idxN (data_105).length j_104).bind fun k109 =>
 ((atO data_105 k109 fun e110 => some e110)).bind fun y111 =>
 (idxN (data_105).length j_104).bind fun k112 =>
 ((atO data_105 k112 fun _ => some ((data_105).set k112 y108))).bind fun z114 =>
 (idxN (z114).length a_2).bind fun k115 =>
 ((atO z114 k115 fun _ => some ((z114).set k115 y111))).bind fun z117 =>
 some (z117, j_104, false, ())))
noncomputable def r_slices_pdqsortOrdered_intq_s (f_ : ((List Int) × Int × Int × Int × Unit) → Option ((List Int) × Unit)) : ((List Int) × Int × Int × Int × Unit) → Option ((List Int) × Unit) := fun (data_1, a_2, b_3, limit_4, _) =>
 (loop (σ := (Int × Int × Int × Bool × Bool × (List Int) × Unit)) (ρ := ((List Int) × Unit)) (fun (a_5, b_6, limit_7, wasBalanced_8, wasPartitioned_9, data_10, _) =>
 (bif (decide ((IntKind.i64.wrap (b_6 - a_5)) ≤ ((12) : Int))) then (
 (d_slices_insertionSortOrdered_int (data_10, a_5, b_6, ())).bind fun (m11, _) =>
 some (.inr (m11, ()))) else (
 (bif (limit_7 == ((0) : Int)) then (
 (d_slices_heapSortOrdered_int (data_10, a_5, b_6, ())).bind fun (m12, _) =>
 some (.inr (m12, ()))) else (
 Option.bind (α := (Int × (List Int) × Unit)) (
 (bif (!wasBalanced_8) then (
 (d_slices_breakPatternsOrdered_int (data_10, a_5, b_6, ())).bind fun (m13, _) =>
 some ((IntKind.i64.wrap (limit_7 - ((1) : Int))), m13, ())) else (
 some (limit_7, data_10, ())))) fun (limit_14, data_15, _) =>
 (d_slices_choosePivotOrdered_int (data_15, a_5, b_6, ())).bind fun (r16, r17, _) =>
 Option.bind (α := (Int × Int × (List Int) × Unit)) (
 (bif (r17 == ((2) : Int)) then (
 (d_slices_reverseRangeOrdered_int (data_15, a_5, b_6, ())).bind fun (m18, _) =>
 some ((IntKind.i64.wrap ((IntKind.i64.wrap (b_6 - ((1) : Int))) - (IntKind.i64.wrap (r16 - a_5)))), ((1) : Int), m18, ())) else (
 some (r16, r17, data_15, ())))) fun (pivot_19, hint_20, data_21, _) =>
 Option.bind (α := ((List Int) × Unit) ⊕ ((Int × Int × Int × Bool × Bool × (List Int) × Unit) ⊕ ((List Int) × Unit))) (
 Option.bind (α := (Bool × (List Int) × Unit)) (
 (bif (wasBalanced_8 == true) then ((bif (wasPartitioned_9 == true) then (some ((hint_20 == ((1) : Int)), data_21, ())) else (some (false, data_21, ())))) else (some (false, data_21, ())))) fun (s_22, data_23, _) =>
 (bif s_22 then (
 (d_slices_partialInsertionSortOrdered_int (data_23, a_5, b_6, ())).bind fun (m24, r25, _) =>
 (bif r25 then (
 some (.inr (.inr (m24, ())))) else (
 some (.inl (m24, ()))))) else (
 some (.inl (data_23, ()))))) fun q => match q with
 | .inl (data_26, _) => (
 Option.bind (α := (Int × (List Int) × Unit) ⊕ ((Int × Int × Int × Bool × Bool × (List Int) × Unit) ⊕ ((List Int) × Unit))) (
 Option.bind (α := (Bool × (List Int) × Unit)) (
 (bif ((decide (a_5 > ((0) : Int))) == true) then ((idxN (data_26).length (IntKind.i64.wrap (a_5 - ((1) : Int)))).bind fun k27 =>
 ((atO data_26 k27 fun e28 => some e28)).bind fun y29 =>
 (idxN (data_26).length pivot_19).bind fun k30 =>
 ((atO data_26 k30 fun e31 => some e31)).bind fun y32 =>
 (d_cmp_Less_int (y29, y32, ())).bind fun (r33, _) =>
 some ((!r33), data_26, ())) else (some (false, data_26, ())))) fun (s_34, data_35, _) =>
 (bif s_34 then (
 (d_slices_partitionEqualOrdered_int (data_35, a_5, b_6, pivot_19, ())).bind fun (m36, r37, _) =>
 some (.inr (.inl (r37, b_6, limit_14, wasBalanced_8, wasPartitioned_9, m36, ())))) else (
 some (.inl (a_5, data_35, ()))))) fun q => match q with
 | .inl (a_38, data_39, _) => (
 (d_slices_partitionOrdered_int (data_39, a_38, b_6, pivot_19, ())).bind fun (m40, r41, r42, _) =>
 (quoO IntKind.i64 (IntKind.i64.wrap (b_6 - a_5)) ((8) : Int)).bind fun y43 =>
 (bif (decide ((IntKind.i64.wrap (r41 - a_38)) < (IntKind.i64.wrap (b_6 - r41)))) then (
 (f_ (m40, a_38, r41, limit_14, ())).bind fun (m44, _) =>
 some (.inl ((IntKind.i64.wrap (r41 + ((1) : Int))), b_6, limit_14, (decide ((IntKind.i64.wrap (r41 - a_38)) ≥ y43)), r42, m44, ()))) else (
 (f_ (m40, (IntKind.i64.wrap (r41 + ((1) : Int))), b_6, limit_14, ())).bind fun (m45, _) =>
 some (.inl (a_38, r41, limit_14, (decide ((IntKind.i64.wrap (b_6 - r41)) ≥ y43)), r42, m45, ())))))
 | .inr r => some r)
 | .inr r => some r))))) (a_2, b_3, limit_4, true, true, data_1, ())).bind some
noncomputable def r_slices_pdqsortOrdered_int : Nat → ((List Int) × Int × Int × Int × Unit) → Option ((List Int) × Unit) := deep r_slices_pdqsortOrdered_intq_s
set_option maxHeartbeats 4000000 in
theorem r_slices_pdqsortOrdered_intq_mono (f_ fb_ : ((List Int) × Int × Int × Int × Unit) → Option ((List Int) × Unit)) (h_ : ∀ a, Le (f_ a) (fb_ a)) (a : ((List Int) × Int × Int × Int × Unit)) : Le (r_slices_pdqsortOrdered_intq_s f_ a) (r_slices_pdqsortOrdered_intq_s fb_ a) := by
 unfold r_slices_pdqsortOrdered_intq_s
 repeat' (first | with_reducible exact Le.refl _ | with_reducible exact h_ _ | (with_reducible refine Le.bind ?_ (fun y => ?_)) | (with_reducible refine Le.bif ?_ ?_) | (with_reducible refine Le.loop2 (fun s => ?_) _) | (with_reducible refine Le.atO (fun e => ?_)) | split)
noncomputable def d_slices_pdqsortOrdered_int : ((List Int) × Int × Int × Int × Unit) → Option ((List Int) × Unit) := fixO r_slices_pdqsortOrdered_int
noncomputable def d_slices_Sort_int_int : ((List Int) × Unit) → Option ((List Int) × Unit) := fun (x_1, _) =>
 (d_math_bits_Len ((IntKind.u64.wrap (((x_1).length : Nat) : Int)), ())).bind fun (r2, _) =>
 (d_slices_pdqsortOrdered_int (x_1, ((0) : Int), (((x_1).length : Nat) : Int), r2, ())).bind fun (m3, _) =>
 some (m3, ())
noncomputable def d_graph_twice : List Int × Unit → Option (Bool × Unit) := fun a => (twSem (fun l => (d_slices_Sort_int_int (l, ())).map fun r => r.1) a.1).map fun b => (b, ())
noncomputable def d_graph_Permuted_1q_q0 : (Int × (Option ((List (List Int)) × Unit)) × Unit) → Option (Bool × Unit) := fun (v_1, p_2, _) =>
 (p_2).bind fun y3 =>
 (d_graph_vertex (y3, v_1, ())).bind fun (r4, _) =>
 some ((!r4), ())
noncomputable def d_slices_IndexFunc_int_int_q0 : ((List Int) × ((Option ((List (List Int)) × Unit)) × Unit) × Unit) → Option (Int × Unit) := fun (s_1, f_2, _) =>
 (loop (σ := (Int × Unit)) (ρ := (Unit ⊕ (Int × Unit))) (fun (s_3, _) =>
 (bif (decide (s_3 < (((s_1).length : Nat) : Int))) then (
 (getI s_1 s_3).bind fun y4 =>
 (d_graph_Permuted_1q_q0 (y4, f_2.1, ())).bind fun (r5, _) =>
 (bif r5 then (
 some (.inr (.inr (s_3, ())))) else (
 some (.inl ((IntKind.i64.wrap (s_3 + ((1) : Int))), ()))))) else (
 some (.inr (.inl ()))))) (((0) : Int), ())).bind fun q => match q with
 | .inl _ => (
 some ((-1 : Int), ()))
 | .inr r => some r
noncomputable def d_slices_ContainsFunc_int_int_q0 : ((List Int) × ((Option ((List (List Int)) × Unit)) × Unit) × Unit) → Option (Bool × Unit) := fun (s_1, f_2, _) =>
 (d_slices_IndexFunc_int_int_q0 (s_1, (f_2.1, ()), ())).bind fun (r3, _) =>
 some ((decide (r3 ≥ ((0) : Int))), ())
noncomputable def d_graph_Permuted : (((List (List Int)) × Unit) × (List Int) × Unit) → Option (Int × Unit) := fun (g_1, order_2, _) =>
 (d_graph_Check (g_1, ())).bind fun (r3, _) =>
 (bif (r3 != ((0) : Int)) then (
 some (r3, ())) else (
 (bif ((((order_2).length : Nat) : Int) != (((g_1.1).length : Nat) : Int)) then (
 some (((2) : Int), ())) else (
 (d_slices_ContainsFunc_int_int_q0 (order_2, ((some g_1), ()), ())).bind fun (r4, _) =>
 (bif (r4 == false) then ((d_graph_twice (order_2, ())).bind fun (r5, _) =>
 (bif r5 then (
 some (((90) : Int), ())) else (
 some (((0) : Int), ())))) else (some (((90) : Int), ())))))))
noncomputable def d_graph_NewSets : (Int × Unit) → Option ((List (List Bool)) × Unit) := fun (n_1, _) =>
 (madeO n_1 n_1).bind fun n2 =>
 (loop (σ := (Int × (List (List Bool)) × Unit)) (ρ := ((List (List Bool)) × Unit)) (fun (s_3, s_4, _) =>
 (bif (decide (s_3 < (((((List.replicate n2 []) : (List (List Bool)))).length : Nat) : Int))) then (
 (madeO n_1 n_1).bind fun n5 =>
 (idxN (s_4).length s_3).bind fun k6 =>
 ((atO s_4 k6 fun _ => some ((s_4).set k6 (List.replicate n5 false)))).bind fun z8 =>
 some (.inl ((IntKind.i64.wrap (s_3 + ((1) : Int))), z8, ()))) else (
 some (.inr (s_4, ()))))) (((0) : Int), (List.replicate n2 []), ())).bind fun (s_9, _) =>
 some (s_9, ())
noncomputable def d_graph_Sets_Join : ((List (List Bool)) × Int × Int × Unit) → Option ((List (List Bool)) × Unit) := fun (s_1, v_2, w_3, _) =>
 (bif (v_2 != w_3) then (
 (idxN (s_1).length v_2).bind fun k4 =>
 (idxN (s_1).length w_3).bind fun k6 =>
 (((atO s_1 k4 fun e8 => some e8)).bind fun e9 => idxN (e9).length w_3).bind fun k10 =>
 ((atO s_1 k4 fun e11 => ((atO e11 k10 fun _ => some ((e11).set k10 true))).map fun z13 => (s_1).set k4 z13)).bind fun z14 =>
 (((atO z14 k6 fun e15 => some e15)).bind fun e16 => idxN (e16).length v_2).bind fun k17 =>
 ((atO z14 k6 fun e18 => ((atO e18 k17 fun _ => some ((e18).set k17 true))).map fun z20 => (z14).set k6 z20)).bind fun z21 =>
 some (z21, ())) else (
 some (s_1, ())))
noncomputable def d_graph_Sets_List : ((List (List Bool)) × Int × Unit) → Option ((List Int) × Unit) := fun (s_1, v_2, _) =>
 (getI s_1 v_2).bind fun y4 =>
 (loop (σ := (Int × (List Int) × Unit)) (ρ := ((List Int) × Unit)) (fun (s_5, out_6, _) =>
 (bif (decide (s_5 < (((y4).length : Nat) : Int))) then (
 Option.bind (α := ((List Int) × Unit)) (
 (getI y4 s_5).bind fun y7 =>
 (bif y7 then (
 (limO ((out_6).length + ([s_5]).length)).bind fun _ =>
 some ((out_6 ++ [s_5]), ())) else (
 some (out_6, ())))) fun (out_8, _) =>
 some (.inl ((IntKind.i64.wrap (s_5 + ((1) : Int))), out_8, ()))) else (
 some (.inr (out_6, ()))))) (((0) : Int), [], ())).bind fun (out_9, _) =>
 some (out_9, ())
noncomputable def d_graph_Table : (((List (List Int)) × Unit) × Unit) → Option ((List (List Bool)) × Unit) := fun (g_1, _) =>
 (d_graph_NewSets ((((g_1.1).length : Nat) : Int), ())).bind fun (r2, _) =>
 (loop (σ := (Int × (List (List Bool)) × Unit)) (ρ := ((List (List Bool)) × Unit)) (fun (s_3, s_4, _) =>
 (bif (decide (s_3 < (((g_1.1).length : Nat) : Int))) then (
 (getI g_1.1 s_3).bind fun y5 =>
 (loop (σ := (Int × (List (List Bool)) × Unit)) (ρ := ((List (List Bool)) × Unit)) (fun (s_6, s_7, _) =>
 (bif (decide (s_6 < (((y5).length : Nat) : Int))) then (
 (getI y5 s_6).bind fun y8 =>
 (d_graph_Sets_Join (s_7, s_3, y8, ())).bind fun (m9, _) =>
 some (.inl ((IntKind.i64.wrap (s_6 + ((1) : Int))), m9, ()))) else (
 some (.inr (s_7, ()))))) (((0) : Int), s_4, ())).bind fun (s_10, _) =>
 some (.inl ((IntKind.i64.wrap (s_3 + ((1) : Int))), s_10, ()))) else (
 some (.inr (s_4, ()))))) (((0) : Int), r2, ())).bind fun (s_11, _) =>
 some (s_11, ())
noncomputable def d_mindeg_Start : (((List (List Int)) × Unit) × Unit) → Option (((List (List Bool)) × ((List Bool) × Unit)) × Unit) := fun (g_1, _) =>
 (d_graph_Table (g_1, ())).bind fun (r2, _) =>
 (madeO (((g_1.1).length : Nat) : Int) (((g_1.1).length : Nat) : Int)).bind fun n3 =>
 some ((r2, ((List.replicate n3 false), ())), ())
noncomputable def d_mindeg_Elimination_Eliminate : (((List (List Bool)) × ((List Bool) × Unit)) × Int × Unit) → Option (((List (List Bool)) × ((List Bool) × Unit)) × (List Int) × Unit) := fun (x_1, v_2, _) =>
 (d_graph_Sets_List (x_1.1, v_2, ())).bind fun (r3, _) =>
 (loop (σ := (Int × ((List (List Bool)) × ((List Bool) × Unit)) × Unit)) (ρ := (((List (List Bool)) × ((List Bool) × Unit)) × Unit)) (fun (s_4, x_5, _) =>
 (bif (decide (s_4 < (((r3).length : Nat) : Int))) then (
 (getI r3 s_4).bind fun y6 =>
 ((some (0)).bind fun l7 => (natO s_4).bind fun l8 => (leO l7 l8 (r3).length).map fun _ => (l7, l8)).bind fun q9 =>
 (loop (σ := (Int × ((List (List Bool)) × ((List Bool) × Unit)) × Unit)) (ρ := (((List (List Bool)) × ((List Bool) × Unit)) × Unit)) (fun (s_10, x_11, _) =>
 (bif (decide (s_10 < ((((((r3).take q9.2).drop q9.1)).length : Nat) : Int))) then (
 (getI (((r3).take q9.2).drop q9.1) s_10).bind fun y12 =>
 (d_graph_Sets_Join (x_11.1, y6, y12, ())).bind fun (m13, _) =>
 some (.inl ((IntKind.i64.wrap (s_10 + ((1) : Int))), (m13, x_11.2), ()))) else (
 some (.inr (x_11, ()))))) (((0) : Int), x_5, ())).bind fun (x_14, _) =>
 (idxN (x_14.1).length y6).bind fun k15 =>
 (idxN (x_14.1).length v_2).bind fun k17 =>
 (((atO x_14.1 k15 fun e19 => some e19)).bind fun e20 => idxN (e20).length v_2).bind fun k21 =>
 ((((atO x_14.1 k15 fun e22 => ((atO e22 k21 fun _ => some ((e22).set k21 false))).map fun z24 => (x_14.1).set k15 z24)).map fun z25 => (z25, x_14.2))).bind fun z26 =>
 (((atO z26.1 k17 fun e27 => some e27)).bind fun e28 => idxN (e28).length y6).bind fun k29 =>
 ((((atO z26.1 k17 fun e30 => ((atO e30 k29 fun _ => some ((e30).set k29 false))).map fun z32 => (z26.1).set k17 z32)).map fun z33 => (z33, z26.2))).bind fun z34 =>
 some (.inl ((IntKind.i64.wrap (s_4 + ((1) : Int))), z34, ()))) else (
 some (.inr (x_5, ()))))) (((0) : Int), x_1, ())).bind fun (x_35, _) =>
 (idxN (x_35.2.1).length v_2).bind fun k36 =>
 ((((((atO x_35.2.1 k36 fun _ => some ((x_35.2.1).set k36 true))).map fun z38 => (z38, x_35.2.2))).map fun z39 => (x_35.1, z39))).bind fun z40 =>
 some (z40, r3, ())
noncomputable def d_mindeg_Degrees : (((List (List Int)) × Unit) × (List Int) × Unit) → Option ((List Int) × Int × Unit) := fun (g_1, order_2, _) =>
 (d_graph_Permuted (g_1, order_2, ())).bind fun (r14, _) =>
 (bif (r14 != ((0) : Int)) then (
 some ([], r14, ())) else (
 (d_mindeg_Start (g_1, ())).bind fun (r15, _) =>
 (loop (σ := (Int × ((List (List Bool)) × ((List Bool) × Unit)) × (List Int) × Unit)) (ρ := ((List Int) × Unit)) (fun (s_16, x_17, out_18, _) =>
 (bif (decide (s_16 < (((order_2).length : Nat) : Int))) then (
 (getI order_2 s_16).bind fun y19 =>
 (d_mindeg_Elimination_Eliminate (x_17, y19, ())).bind fun (m20, r21, _) =>
 (limO ((out_18).length + ([(((r21).length : Nat) : Int)]).length)).bind fun _ =>
 some (.inl ((IntKind.i64.wrap (s_16 + ((1) : Int))), m20, (out_18 ++ [(((r21).length : Nat) : Int)]), ()))) else (
 some (.inr (out_18, ()))))) (((0) : Int), r15, [], ())).bind fun (out_22, _) =>
 some (out_22, ((0) : Int), ())))
end Go.Fw
end
section
namespace Go.Fw
noncomputable def d_memory_proper : ((List (Int × (Int × ((List Int) × (Int × Unit))))) × Unit) → Option (Bool × Unit) := fun (l_1, _) =>
 (bif (decide ((((l_1).length : Nat) : Int) > ((200) : Int))) then (
 some (false, ())) else (
 (loop (σ := (Int × Unit)) (ρ := (Unit ⊕ (Bool × Unit))) (fun (s_4, _) =>
 (bif (decide (s_4 < (((l_1).length : Nat) : Int))) then (
 Option.bind (α := Unit ⊕ ((Int × Unit) ⊕ (Unit ⊕ (Bool × Unit)))) (
 (getI l_1 s_4).bind fun y5 =>
 Option.bind (α := ((Int × (Int × ((List Int) × (Int × Unit)))) × Unit) ⊕ (Unit ⊕ ((Int × Unit) ⊕ (Unit ⊕ (Bool × Unit))))) (
 (bif ((decide ((((y5.2.2.1).length : Nat) : Int) > ((200) : Int))) == false) then ((bif ((decide (y5.2.1 ≤ y5.1)) == false) then ((bif ((decide ((IntKind.i64.wrap (y5.2.1 - y5.1)) < ((1) : Int))) == false) then ((bif (decide ((IntKind.i64.wrap (y5.2.1 - y5.1)) > (((y5.2.2.1).length : Nat) : Int))) then (
 some (.inr (.inr (.inr (.inr (false, ())))))) else (
 some (.inl (y5, ()))))) else (some (.inr (.inr (.inr (.inr (false, ())))))))) else (some (.inr (.inr (.inr (.inr (false, ())))))))) else (some (.inr (.inr (.inr (.inr (false, ())))))))) fun q => match q with
 | .inl (f_6, _) => (
 (bif ((f_6.2.2.2.1 != (-1 : Int)) == true) then ((bif ((decide (f_6.2.2.2.1 ≤ s_4)) == false) then ((bif (decide (f_6.2.2.2.1 ≥ (((l_1).length : Nat) : Int))) then (
 some (.inr (.inr (.inr (false, ()))))) else (
 some (.inl ())))) else (some (.inr (.inr (.inr (false, ()))))))) else (some (.inl ()))))
 | .inr r => some r) fun q => match q with
 | .inl _ => (
 some (.inl ((IntKind.i64.wrap (s_4 + ((1) : Int))), ())))
 | .inr r => some r) else (
 some (.inr (.inl ()))))) (((0) : Int), ())).bind fun q => match q with
 | .inl _ => (
 some (true, ()))
 | .inr r => some r))
noncomputable def d_cmp_Compare_int : (Int × Int × Unit) → Option (Int × Unit) := fun (x_1, y_2, _) =>
 (d_cmp_isNaN_int (x_1, ())).bind fun (r3, _) =>
 (d_cmp_isNaN_int (y_2, ())).bind fun (r4, _) =>
 (bif r3 then (
 (bif r4 then (
 some (((0) : Int), ())) else (
 some ((-1 : Int), ())))) else (
 (bif r4 then (
 some (((1) : Int), ())) else (
 (bif (decide (x_1 < y_2)) then (
 some ((-1 : Int), ())) else (
 (bif (decide (x_1 > y_2)) then (
 some (((1) : Int), ())) else (
 some (((0) : Int), ())))))))))
noncomputable def d_cmp_Or_int : ((List Int) × Unit) → Option (Int × Unit) := fun (vals_1, _) =>
 (loop (σ := (Int × Unit)) (ρ := (Unit ⊕ (Int × Unit))) (fun (s_2, _) =>
 (bif (decide (s_2 < (((vals_1).length : Nat) : Int))) then (
 (getI vals_1 s_2).bind fun y3 =>
 (bif (y3 != ((0) : Int)) then (
 some (.inr (.inr (y3, ())))) else (
 some (.inl ((IntKind.i64.wrap (s_2 + ((1) : Int))), ()))))) else (
 some (.inr (.inl ()))))) (((0) : Int), ())).bind fun q => match q with
 | .inl _ => (
 some (((0) : Int), ()))
 | .inr r => some r
noncomputable def d_memory_Best_1q_1q_q0 : (Int × Int × (Option (List Int)) × (Option (List Int)) × Unit) → Option (Int × Unit) := fun (a_1, b_2, p_3, p_4, _) =>
 (p_3).bind fun y5 =>
 (getI y5 b_2).bind fun y6 =>
 (p_4).bind fun y7 =>
 (getI y7 b_2).bind fun y8 =>
 (p_3).bind fun y9 =>
 (getI y9 a_1).bind fun y10 =>
 (p_4).bind fun y11 =>
 (getI y11 a_1).bind fun y12 =>
 (d_cmp_Compare_int ((IntKind.i64.wrap (y6 - y8)), (IntKind.i64.wrap (y10 - y12)), ())).bind fun (r13, _) =>
 (d_cmp_Compare_int (a_1, b_2, ())).bind fun (r14, _) =>
 (d_cmp_Or_int ([r13, r14], ())).bind fun (r15, _) =>
 some (r15, ())
noncomputable def d_slices_insertionSortCmpFunc_int_mem : ((List Int) × Int × Int × ((Option (List Int)) × (Option (List Int)) × Unit) × Unit) → Option ((List Int) × Unit) := fun (data_1, a_2, b_3, cmp_4, _) =>
 (loop (σ := (Int × (List Int) × Unit)) (ρ := ((List Int) × Unit)) (fun (i_5, data_6, _) =>
 (bif (decide (i_5 < b_3)) then (
 (loop (σ := (Int × (List Int) × Unit)) (ρ := ((List Int) × Unit)) (fun (j_7, data_8, _) =>
 Option.bind (α := ((List Int) × Unit) ⊕ ((Int × (List Int) × Unit) ⊕ ((List Int) × Unit))) (
 (bif ((decide (j_7 > a_2)) == true) then ((idxN (data_8).length j_7).bind fun k9 =>
 ((atO data_8 k9 fun e10 => some e10)).bind fun y11 =>
 (idxN (data_8).length (IntKind.i64.wrap (j_7 - ((1) : Int)))).bind fun k12 =>
 ((atO data_8 k12 fun e13 => some e13)).bind fun y14 =>
 (d_memory_Best_1q_1q_q0 (y11, y14, cmp_4.1, cmp_4.2.1, ())).bind fun (r15, _) =>
 (bif (decide (r15 < ((0) : Int))) then (
 some (.inl (data_8, ()))) else (
 some (.inr (.inr (data_8, ())))))) else (some (.inr (.inr (data_8, ())))))) fun q => match q with
 | .inl (data_16, _) => (
 (idxN (data_16).length (IntKind.i64.wrap (j_7 - ((1) : Int)))).bind fun k17 =>
 ((atO data_16 k17 fun e18 => some e18)).bind fun y19 =>
 (idxN (data_16).length j_7).bind fun k20 =>
 ((atO data_16 k20 fun e21 => some e21)).bind fun y22 =>
 (idxN (data_16).length j_7).bind fun k23 =>
 ((atO data_16 k23 fun _ => some ((data_16).set k23 y19))).bind fun z25 =>
 (idxN (z25).length (IntKind.i64.wrap (j_7 - ((1) : Int)))).bind fun k26 =>
 ((atO z25 k26 fun _ => some ((z25).set k26 y22))).bind fun z28 =>
 some (.inl ((IntKind.i64.wrap (j_7 - ((1) : Int))), z28, ())))
 | .inr r => some r) (i_5, data_6, ())).bind fun (data_29, _) =>
 some (.inl ((IntKind.i64.wrap (i_5 + ((1) : Int))), data_29, ()))) else (
 some (.inr (data_6, ()))))) ((IntKind.i64.wrap (a_2 + ((1) : Int))), data_1, ())).bind fun (data_30, _) =>
 some (data_30, ())
noncomputable def d_slices_breakPatternsCmpFunc_int_mem : ((List Int) × Int × Int × ((Option (List Int)) × (Option (List Int)) × Unit) × Unit) → Option ((List Int) × Unit) := fun (data_1, a_2, b_3, _, _) =>
 (bif (decide ((IntKind.i64.wrap (b_3 - a_2)) ≥ ((8) : Int))) then (
 (d_slices_nextPowerOfTwo ((IntKind.i64.wrap (b_3 - a_2)), ())).bind fun (r5, _) =>
 (quoO IntKind.i64 (IntKind.i64.wrap (b_3 - a_2)) ((4) : Int)).bind fun y6 =>
 (loop (σ := (Int × (List Int) × Int × Unit)) (ρ := ((List Int) × Unit)) (fun (idx_7, data_8, random_9, _) =>
 (quoO IntKind.i64 (IntKind.i64.wrap (b_3 - a_2)) ((4) : Int)).bind fun y10 =>
 (bif (decide (idx_7 ≤ (IntKind.i64.wrap ((IntKind.i64.wrap (a_2 + (IntKind.i64.wrap (y10 * ((2) : Int))))) + ((1) : Int))))) then (
 Option.bind (α := ((List Int) × Int × Unit)) (
 (d_slices_xorshift_Next (random_9, ())).bind fun (m11, r12, _) =>
 Option.bind (α := (Int × (List Int) × Int × Unit)) (
 (bif (decide ((IntKind.i64.wrap (andI IntKind.u64 r12 (IntKind.u64.wrap (r5 - ((1) : Int))))) ≥ (IntKind.i64.wrap (b_3 - a_2)))) then (
 some ((IntKind.i64.wrap ((IntKind.i64.wrap (andI IntKind.u64 r12 (IntKind.u64.wrap (r5 - ((1) : Int))))) - (IntKind.i64.wrap (b_3 - a_2)))), data_8, m11, ())) else (
 some ((IntKind.i64.wrap (andI IntKind.u64 r12 (IntKind.u64.wrap (r5 - ((1) : Int))))), data_8, m11, ())))) fun (other_13, data_14, random_15, _) =>
 (idxN (data_14).length (IntKind.i64.wrap (a_2 + other_13))).bind fun k16 =>
 ((atO data_14 k16 fun e17 => some e17)).bind fun y18 =>
 (idxN (data_14).length idx_7).bind fun k19 =>
 ((atO data_14 k19 fun e20 => some e20)).bind fun y21 =>
 (idxN (data_14).length idx_7).bind fun k22 =>
 ((atO data_14 k22 fun _ => some ((data_14).set k22 y18))).bind fun z24 =>
 (idxN (z24).length (IntKind.i64.wrap (a_2 + other_13))).bind fun k25 =>
 ((atO z24 k25 fun _ => some ((z24).set k25 y21))).bind fun z27 =>
 some (z27, random_15, ())) fun (data_28, random_29, _) =>
 some (.inl ((IntKind.i64.wrap (idx_7 + ((1) : Int))), data_28, random_29, ()))) else (
 some (.inr (data_8, ()))))) ((IntKind.i64.wrap ((IntKind.i64.wrap (a_2 + (IntKind.i64.wrap (y6 * ((2) : Int))))) - ((1) : Int))), data_1, (IntKind.u64.wrap (IntKind.i64.wrap (b_3 - a_2))), ())).bind fun (data_30, _) =>
 some (data_30, ())) else (
 some (data_1, ())))
noncomputable def d_sparsemake_At : ((List Int) × Int × Unit) → Option (Int × Unit) := fun (l_1, i_2, _) =>
 (bif (decide (i_2 < (((l_1).length : Nat) : Int))) then (
 (getI l_1 i_2).bind fun y3 =>
 some (y3, ())) else (
 some (((0) : Int), ())))
noncomputable def d_sparsemake_Tree : (Int × (List Int) × Unit) → Option ((List Int) × Unit) := fun (n_1, l_2, _) =>
 (loop (σ := (Int × (List Int) × Unit)) (ρ := ((List Int) × Unit)) (fun (v_3, out_4, _) =>
 (bif (decide (v_3 < n_1)) then (
 Option.bind (α := ((List Int) × Unit)) (
 (d_sparsemake_At (l_2, v_3, ())).bind fun (r5, _) =>
 (d_sparsekit_Place (r5, (IntKind.i64.wrap (n_1 - v_3)), ())).bind fun (r6, _) =>
 Option.bind (α := (Int × (List Int) × Unit)) (
 (bif ((IntKind.i64.wrap (v_3 + r6)) == v_3) then (
 some ((-1 : Int), out_4, ())) else (
 some ((IntKind.i64.wrap (v_3 + r6)), out_4, ())))) fun (p_7, out_8, _) =>
 (limO ((out_8).length + ([p_7]).length)).bind fun _ =>
 some ((out_8 ++ [p_7]), ())) fun (out_9, _) =>
 some (.inl ((IntKind.i64.wrap (v_3 + ((1) : Int))), out_9, ()))) else (
 some (.inr (out_4, ()))))) (((0) : Int), [], ())).bind fun (out_10, _) =>
 some (out_10, ())
end Go.Fw
end
section
namespace Go.Fw
noncomputable def d_graph_levels : (((List (List Int)) × Unit) × Int × Unit) → Option ((List (List Int)) × Unit) := fun (g_1, root_2, _) =>
 (madeO (((g_1.1).length : Nat) : Int) (((g_1.1).length : Nat) : Int)).bind fun n48 =>
 (idxN ((List.replicate n48 false)).length root_2).bind fun k49 =>
 ((atO (List.replicate n48 false) k49 fun _ => some (((List.replicate n48 false)).set k49 true))).bind fun z51 =>
 (loop (σ := ((List Int) × (List Bool) × (List (List Int)) × Unit)) (ρ := ((List (List Int)) × Unit)) (fun (now_52, seen_53, out_54, _) =>
 (bif (decide ((((now_52).length : Nat) : Int) > ((0) : Int))) then (
 (limO ((out_54).length + ([now_52]).length)).bind fun _ =>
 (loop (σ := (Int × (List Bool) × (List (List Int)) × (List Int) × Unit)) (ρ := ((List Bool) × (List (List Int)) × (List Int) × Unit)) (fun (s_55, seen_56, out_57, next_58, _) =>
 (bif (decide (s_55 < (((now_52).length : Nat) : Int))) then (
 (getI now_52 s_55).bind fun y59 =>
 (getI g_1.1 y59).bind fun y60 =>
 (loop (σ := (Int × (List Bool) × (List (List Int)) × (List Int) × Unit)) (ρ := ((List Bool) × (List (List Int)) × (List Int) × Unit)) (fun (s_61, seen_62, out_63, next_64, _) =>
 (bif (decide (s_61 < (((y60).length : Nat) : Int))) then (
 Option.bind (α := ((List Bool) × (List (List Int)) × (List Int) × Unit)) (
 (getI y60 s_61).bind fun y65 =>
 (idxN (seen_62).length y65).bind fun k66 =>
 ((atO seen_62 k66 fun e67 => some e67)).bind fun y68 =>
 (bif (!y68) then (
 (idxN (seen_62).length y65).bind fun k69 =>
 ((atO seen_62 k69 fun _ => some ((seen_62).set k69 true))).bind fun z71 =>
 (limO ((next_64).length + ([y65]).length)).bind fun _ =>
 some (z71, out_63, (next_64 ++ [y65]), ())) else (
 some (seen_62, out_63, next_64, ())))) fun (seen_72, out_73, next_74, _) =>
 some (.inl ((IntKind.i64.wrap (s_61 + ((1) : Int))), seen_72, out_73, next_74, ()))) else (
 some (.inr (seen_62, out_63, next_64, ()))))) (((0) : Int), seen_56, out_57, next_58, ())).bind fun (seen_75, out_76, next_77, _) =>
 some (.inl ((IntKind.i64.wrap (s_55 + ((1) : Int))), seen_75, out_76, next_77, ()))) else (
 some (.inr (seen_56, out_57, next_58, ()))))) (((0) : Int), seen_53, (out_54 ++ [now_52]), [], ())).bind fun (seen_78, out_79, next_80, _) =>
 (d_slices_Sort_int_int (next_80, ())).bind fun (m81, _) =>
 some (.inl (m81, seen_78, out_79, ()))) else (
 some (.inr (out_54, ()))))) ([root_2], z51, [], ())).bind fun (out_82, _) =>
 some (out_82, ())
noncomputable def d_slices_Grow_int_int : Unit × Int × Unit → Option (List Int × Unit) := fun a => (grSem a.2.1).map fun r => (r, ())
noncomputable def d_slices_Concat_int_int : ((List (List Int)) × Unit) → Option ((List Int) × Unit) := fun (slices_1, _) =>
 (loop (σ := (Int × Int × Unit)) (ρ := (Int × Unit)) (fun (size_2, s_3, _) =>
 (bif (decide (s_3 < (((slices_1).length : Nat) : Int))) then (
 Option.bind (α := (Int × Unit)) (
 (getI slices_1 s_3).bind fun y4 =>
 (bif (decide ((IntKind.i64.wrap (size_2 + (((y4).length : Nat) : Int))) < ((0) : Int))) then (
 none) else (
 some ((IntKind.i64.wrap (size_2 + (((y4).length : Nat) : Int))), ())))) fun (size_5, _) =>
 some (.inl (size_5, (IntKind.i64.wrap (s_3 + ((1) : Int))), ()))) else (
 some (.inr (size_2, ()))))) (((0) : Int), ((0) : Int), ())).bind fun (size_6, _) =>
 (d_slices_Grow_int_int ((), size_6, ())).bind fun (r7, _) =>
 (loop (σ := (Int × (List Int) × Unit)) (ρ := ((List Int) × Unit)) (fun (s_8, newslice_9, _) =>
 (bif (decide (s_8 < (((slices_1).length : Nat) : Int))) then (
 (getI slices_1 s_8).bind fun y10 =>
 (limO ((newslice_9).length + (y10).length)).bind fun _ =>
 some (.inl ((IntKind.i64.wrap (s_8 + ((1) : Int))), (newslice_9 ++ y10), ()))) else (
 some (.inr (newslice_9, ()))))) (((0) : Int), r7, ())).bind fun (newslice_11, _) =>
 some (newslice_11, ())
noncomputable def d_graph_Peripheral : (((List (List Int)) × Unit) × Int × Unit) → Option (Int × Unit) := fun (g_1, v_2, _) =>
 Option.bind (α := Unit ⊕ (Int × Unit)) (
 (d_graph_Check (g_1, ())).bind fun (r3, _) =>
 (bif ((r3 != ((0) : Int)) == false) then ((d_graph_vertex (g_1, v_2, ())).bind fun (r4, _) =>
 (bif (!r4) then (
 some (.inr ((-1 : Int), ()))) else (
 some (.inl ())))) else (some (.inr ((-1 : Int), ()))))) fun q => match q with
 | .inl _ => (
 (d_graph_levels (g_1, v_2, ())).bind fun (r5, _) =>
 (loop (σ := (Int × (List (List Int)) × Unit)) (ρ := (Int × Unit)) (fun (v_6, now_7, _) =>
 (getI now_7 (IntKind.i64.wrap ((((now_7).length : Nat) : Int) - ((1) : Int)))).bind fun y8 =>
 (getI y8 ((0) : Int)).bind fun y9 =>
 (loop (σ := (Int × Int × Unit)) (ρ := (Int × Unit)) (fun (w_10, s_11, _) =>
 (bif (decide (s_11 < (((y8).length : Nat) : Int))) then (
 Option.bind (α := (Int × Unit)) (
 (getI y8 s_11).bind fun y12 =>
 (getI g_1.1 y12).bind fun y13 =>
 (getI g_1.1 w_10).bind fun y14 =>
 (bif (decide ((((y13).length : Nat) : Int) < (((y14).length : Nat) : Int))) then (
 some (y12, ())) else (
 some (w_10, ())))) fun (w_15, _) =>
 some (.inl (w_15, (IntKind.i64.wrap (s_11 + ((1) : Int))), ()))) else (
 some (.inr (w_10, ()))))) (y9, ((0) : Int), ())).bind fun (w_16, _) =>
 (d_graph_levels (g_1, w_16, ())).bind fun (r17, _) =>
 (bif (decide ((((r17).length : Nat) : Int) ≤ (((now_7).length : Nat) : Int))) then (
 some (.inr (v_6, ()))) else (
 some (.inl (w_16, r17, ()))))) (v_2, r5, ())).bind some)
 | .inr r => some r
noncomputable def d_rcm_positions : ((List Int) × Unit) → Option ((List Int) × Unit) := fun (order_1, _) =>
 (madeO (((order_1).length : Nat) : Int) (((order_1).length : Nat) : Int)).bind fun n2 =>
 (loop (σ := (Int × (List Int) × Unit)) (ρ := ((List Int) × Unit)) (fun (s_3, out_4, _) =>
 (bif (decide (s_3 < (((order_1).length : Nat) : Int))) then (
 (getI order_1 s_3).bind fun y5 =>
 (idxN (out_4).length y5).bind fun k6 =>
 ((atO out_4 k6 fun _ => some ((out_4).set k6 s_3))).bind fun z8 =>
 some (.inl ((IntKind.i64.wrap (s_3 + ((1) : Int))), z8, ()))) else (
 some (.inr (out_4, ()))))) (((0) : Int), (List.replicate n2 (0 : Int)), ())).bind fun (out_9, _) =>
 some (out_9, ())
noncomputable def d_rcm_Bandwidth : (((List (List Int)) × Unit) × (List Int) × Unit) → Option (Int × Int × Unit) := fun (g_1, order_2, _) =>
 (d_graph_Permuted (g_1, order_2, ())).bind fun (r3, _) =>
 (bif (r3 != ((0) : Int)) then (
 some (((0) : Int), r3, ())) else (
 (d_rcm_positions (order_2, ())).bind fun (r4, _) =>
 (loop (σ := (Int × Int × Unit)) (ρ := (Int × Unit)) (fun (width_5, s_6, _) =>
 (bif (decide (s_6 < (((g_1.1).length : Nat) : Int))) then (
 (getI g_1.1 s_6).bind fun y7 =>
 (loop (σ := (Int × Int × Unit)) (ρ := (Int × Unit)) (fun (width_8, s_9, _) =>
 (bif (decide (s_9 < (((y7).length : Nat) : Int))) then (
 (getI y7 s_9).bind fun y10 =>
 (getI r4 s_6).bind fun y11 =>
 (getI r4 y10).bind fun y12 =>
 some (.inl ((if (IntKind.i64.wrap (y11 - y12)) > width_8 then (IntKind.i64.wrap (y11 - y12)) else width_8), (IntKind.i64.wrap (s_9 + ((1) : Int))), ()))) else (
 some (.inr (width_8, ()))))) (width_5, ((0) : Int), ())).bind fun (width_13, _) =>
 some (.inl (width_13, (IntKind.i64.wrap (s_6 + ((1) : Int))), ()))) else (
 some (.inr (width_5, ()))))) (((0) : Int), ((0) : Int), ())).bind fun (width_14, _) =>
 some (width_14, ((0) : Int), ())))
noncomputable def d_sparseref16q_Degrees : (((List (List Int)) × Unit) × (List Int) × Unit) → Option ((List Int) × Int × Unit) := fun (g_1, order_2, _) =>
 (d_sparseref12q_Check (g_1, ())).bind fun (r17, _) =>
 (bif (r17 != ((0) : Int)) then (
 some ([], r17, ())) else (
 (bif ((((order_2).length : Nat) : Int) != (((g_1.1).length : Nat) : Int)) then (
 some ([], ((2) : Int), ())) else (
 (d_sparsekit_Perm (order_2, (((g_1.1).length : Nat) : Int), ())).bind fun (r18, _) =>
 (bif (!r18) then (
 some ([], ((90) : Int), ())) else (
 (d_sparseref16q_Begin (g_1, ())).bind fun (r19, _) =>
 (loop (σ := (Int × ((List (List Bool)) × ((List Bool) × Unit)) × (List Int) × Unit)) (ρ := ((List Int) × Unit)) (fun (k_20, x_21, out_22, _) =>
 (bif (decide (k_20 < (((order_2).length : Nat) : Int))) then (
 (getI order_2 k_20).bind fun y23 =>
 (d_sparseref16q_Elimination_Neighbours ((some x_21), y23, ())).bind fun (r24, _) =>
 (limO ((out_22).length + ([(((r24).length : Nat) : Int)]).length)).bind fun _ =>
 (getI order_2 k_20).bind fun y25 =>
 (d_sparseref16q_Elimination_Eliminate (x_21, y25, ())).bind fun (m26, _) =>
 some (.inl ((IntKind.i64.wrap (k_20 + ((1) : Int))), m26, (out_22 ++ [(((r24).length : Nat) : Int)]), ()))) else (
 some (.inr (out_22, ()))))) (((0) : Int), r19, [], ())).bind fun (out_27, _) =>
 some (out_27, ((0) : Int), ())))))))
end Go.Fw
end
section
namespace Go.Fw
noncomputable def d_mindeg_Exact : (((List (List Int)) × Unit) × Unit) → Option ((List Int) × Int × Unit) := fun (g_1, _) =>
 (d_graph_Check (g_1, ())).bind fun (r31, _) =>
 (bif (r31 != ((0) : Int)) then (
 some ([], r31, ())) else (
 (d_mindeg_Start (g_1, ())).bind fun (r32, _) =>
 (loop (σ := (Int × ((List (List Bool)) × ((List Bool) × Unit)) × (List Int) × Unit)) (ρ := ((List Int) × Unit)) (fun (s_33, x_34, out_35, _) =>
 (bif (decide (s_33 < (((g_1.1).length : Nat) : Int))) then (
 (loop (σ := (Int × Int × Int × ((List (List Bool)) × ((List Bool) × Unit)) × (List Int) × Unit)) (ρ := (Int × ((List (List Bool)) × ((List Bool) × Unit)) × (List Int) × Unit)) (fun (best_36, least_37, s_38, x_39, out_40, _) =>
 (bif (decide (s_38 < (((g_1.1).length : Nat) : Int))) then (
 Option.bind (α := (Int × Int × ((List (List Bool)) × ((List Bool) × Unit)) × (List Int) × Unit)) (
 (d_graph_Sets_List (x_39.1, s_38, ())).bind fun (r41, _) =>
 Option.bind (α := (Bool × ((List (List Bool)) × ((List Bool) × Unit)) × (List Int) × Unit)) (
 (idxN (x_39.2.1).length s_38).bind fun k42 =>
 ((atO x_39.2.1 k42 fun e43 => some e43)).bind fun y44 =>
 (bif ((!y44) == true) then ((bif ((decide (best_36 < ((0) : Int))) == false) then (some ((decide ((((r41).length : Nat) : Int) < least_37)), x_39, out_40, ())) else (some (true, x_39, out_40, ())))) else (some (false, x_39, out_40, ())))) fun (s_45, x_46, out_47, _) =>
 (bif s_45 then (
 some (s_38, (((r41).length : Nat) : Int), x_46, out_47, ())) else (
 some (best_36, least_37, x_46, out_47, ())))) fun (best_48, least_49, x_50, out_51, _) =>
 some (.inl (best_48, least_49, (IntKind.i64.wrap (s_38 + ((1) : Int))), x_50, out_51, ()))) else (
 some (.inr (best_36, x_39, out_40, ()))))) ((-1 : Int), ((0) : Int), ((0) : Int), x_34, out_35, ())).bind fun (best_52, x_53, out_54, _) =>
 (d_mindeg_Elimination_Eliminate (x_53, best_52, ())).bind fun (m55, _, _) =>
 (limO ((out_54).length + ([best_52]).length)).bind fun _ =>
 some (.inl ((IntKind.i64.wrap (s_33 + ((1) : Int))), m55, (out_54 ++ [best_52]), ()))) else (
 some (.inr (out_35, ()))))) (((0) : Int), r32, [], ())).bind fun (out_57, _) =>
 some (out_57, ((0) : Int), ())))
noncomputable def d_sparselaw16q_awake : Unit → Option (Bool × Unit) := fun _ =>
 (d_mindeg_Exact (([[((1) : Int), ((2) : Int), ((3) : Int)], [((0) : Int)], [((0) : Int)], [((0) : Int)]], ()), ())).bind fun (r1, r2, _) =>
 (d_mindeg_Degrees (([[((1) : Int), ((2) : Int), ((3) : Int)], [((0) : Int)], [((0) : Int)], [((0) : Int)]], ()), [((0) : Int), ((1) : Int), ((2) : Int), ((3) : Int)], ())).bind fun (r3, r4, _) =>
 (bif ((r2 == ((0) : Int)) == true) then ((bif ((r4 == ((0) : Int)) == true) then ((d_sparsekit_Ints (r1, [((1) : Int), ((2) : Int), ((0) : Int), ((3) : Int)], ())).bind fun (r5, _) =>
 (bif (r5 == true) then ((d_sparsekit_Ints (r3, [((3) : Int), ((2) : Int), ((1) : Int), ((0) : Int)], ())).bind fun (r6, _) =>
 some (r6, ())) else (some (false, ())))) else (some (false, ())))) else (some (false, ())))
noncomputable def d_sparseref16q_Exact : (((List (List Int)) × Unit) × Unit) → Option ((List Int) × Int × Unit) := fun (g_1, _) =>
 (d_sparseref12q_Check (g_1, ())).bind fun (r29, _) =>
 (bif (r29 != ((0) : Int)) then (
 some ([], r29, ())) else (
 (d_sparseref16q_Begin (g_1, ())).bind fun (r30, _) =>
 (loop (σ := (((List (List Bool)) × ((List Bool) × Unit)) × (List Int) × Unit)) (ρ := ((List Int) × Unit)) (fun (x_31, out_32, _) =>
 (bif (decide ((((out_32).length : Nat) : Int) < (((g_1.1).length : Nat) : Int))) then (
 (loop (σ := (Int × Int × Int × ((List (List Bool)) × ((List Bool) × Unit)) × (List Int) × Unit)) (ρ := (Int × ((List (List Bool)) × ((List Bool) × Unit)) × (List Int) × Unit)) (fun (best_33, least_34, v_35, x_36, out_37, _) =>
 (bif (decide (v_35 < (((g_1.1).length : Nat) : Int))) then (
 Option.bind (α := (Int × Int × ((List (List Bool)) × ((List Bool) × Unit)) × (List Int) × Unit)) (
 (d_sparseref16q_Elimination_Neighbours ((some x_36), v_35, ())).bind fun (r38, _) =>
 Option.bind (α := (Bool × ((List (List Bool)) × ((List Bool) × Unit)) × (List Int) × Unit)) (
 (idxN (x_36.2.1).length v_35).bind fun k39 =>
 ((atO x_36.2.1 k39 fun e40 => some e40)).bind fun y41 =>
 (bif ((!y41) == true) then ((bif ((decide (best_33 < ((0) : Int))) == false) then (some ((decide ((((r38).length : Nat) : Int) < least_34)), x_36, out_37, ())) else (some (true, x_36, out_37, ())))) else (some (false, x_36, out_37, ())))) fun (s_42, x_43, out_44, _) =>
 (bif s_42 then (
 some (v_35, (((r38).length : Nat) : Int), x_43, out_44, ())) else (
 some (best_33, least_34, x_43, out_44, ())))) fun (best_45, least_46, x_47, out_48, _) =>
 some (.inl (best_45, least_46, (IntKind.i64.wrap (v_35 + ((1) : Int))), x_47, out_48, ()))) else (
 some (.inr (best_33, x_36, out_37, ()))))) ((-1 : Int), ((0) : Int), ((0) : Int), x_31, out_32, ())).bind fun (best_49, x_50, out_51, _) =>
 (d_sparseref16q_Elimination_Eliminate (x_50, best_49, ())).bind fun (m52, _) =>
 (limO ((out_51).length + ([best_49]).length)).bind fun _ =>
 some (.inl (m52, (out_51 ++ [best_49]), ()))) else (
 some (.inr (out_32, ()))))) (r30, [], ())).bind fun (out_53, _) =>
 some (out_53, ((0) : Int), ())))
end Go.Fw
end
section
namespace Go.Fw
noncomputable def d_mindeg_newQuotient : (((List (List Int)) × Unit) × Unit) → Option (((List (Option (List (Int × Bool) × Nat))) × ((List (Option (List (Int × Bool) × Nat))) × ((List (Option (List (Int × Bool) × Nat))) × ((List Int) × ((List Bool) × (Int × Unit)))))) × Unit) := fun (g_1, _) =>
 (madeO (((g_1.1).length : Nat) : Int) (((g_1.1).length : Nat) : Int)).bind fun n2 =>
 (madeO (((g_1.1).length : Nat) : Int) (((g_1.1).length : Nat) : Int)).bind fun n3 =>
 (madeO (((g_1.1).length : Nat) : Int) (((g_1.1).length : Nat) : Int)).bind fun n4 =>
 (madeO (((g_1.1).length : Nat) : Int) (((g_1.1).length : Nat) : Int)).bind fun n5 =>
 (madeO (((g_1.1).length : Nat) : Int) (((g_1.1).length : Nat) : Int)).bind fun n6 =>
 (loop (σ := (Int × ((List (Option (List (Int × Bool) × Nat))) × ((List (Option (List (Int × Bool) × Nat))) × ((List (Option (List (Int × Bool) × Nat))) × ((List Int) × ((List Bool) × (Int × Unit)))))) × Unit)) (ρ := (((List (Option (List (Int × Bool) × Nat))) × ((List (Option (List (Int × Bool) × Nat))) × ((List (Option (List (Int × Bool) × Nat))) × ((List Int) × ((List Bool) × (Int × Unit)))))) × Unit)) (fun (s_7, q_8, _) =>
 (bif (decide (s_7 < (((g_1.1).length : Nat) : Int))) then (
 (getI g_1.1 s_7).bind fun y9 =>
 (idxN (q_8.1).length s_7).bind fun k10 =>
 ((((atO q_8.1 k10 fun _ => some ((q_8.1).set k10 (some ([], 0))))).map fun z12 => (z12, q_8.2))).bind fun z13 =>
 (idxN (z13.2.1).length s_7).bind fun k14 =>
 ((((((atO z13.2.1 k14 fun _ => some ((z13.2.1).set k14 (some ([], 0))))).map fun z16 => (z16, z13.2.2))).map fun z17 => (z13.1, z17))).bind fun z18 =>
 (idxN (z18.2.2.2.1).length s_7).bind fun k19 =>
 ((((((((((atO z18.2.2.2.1 k19 fun _ => some ((z18.2.2.2.1).set k19 (((y9).length : Nat) : Int)))).map fun z21 => (z21, z18.2.2.2.2))).map fun z22 => (z18.2.2.1, z22))).map fun z23 => (z18.2.1, z23))).map fun z24 => (z18.1, z24))).bind fun z25 =>
 (loop (σ := (Int × ((List (Option (List (Int × Bool) × Nat))) × ((List (Option (List (Int × Bool) × Nat))) × ((List (Option (List (Int × Bool) × Nat))) × ((List Int) × ((List Bool) × (Int × Unit)))))) × Unit)) (ρ := (((List (Option (List (Int × Bool) × Nat))) × ((List (Option (List (Int × Bool) × Nat))) × ((List (Option (List (Int × Bool) × Nat))) × ((List Int) × ((List Bool) × (Int × Unit)))))) × Unit)) (fun (s_26, q_27, _) =>
 (bif (decide (s_26 < (((y9).length : Nat) : Int))) then (
 (getI y9 s_26).bind fun y28 =>
 (idxN (q_27.1).length s_7).bind fun k29 =>
 ((atO q_27.1 k29 fun e31 => some e31)).bind fun mm32 =>
 (mUpO mm32 y28 true).bind fun mp33 =>
 ((((atO q_27.1 k29 fun _ => some ((q_27.1).set k29 mp33))).map fun z35 => (z35, q_27.2))).bind fun z36 =>
 some (.inl ((IntKind.i64.wrap (s_26 + ((1) : Int))), z36, ()))) else (
 some (.inr (q_27, ()))))) (((0) : Int), z25, ())).bind fun (q_37, _) =>
 some (.inl ((IntKind.i64.wrap (s_7 + ((1) : Int))), q_37, ()))) else (
 some (.inr (q_8, ()))))) (((0) : Int), ((List.replicate n2 none), ((List.replicate n3 none), ((List.replicate n4 none), ((List.replicate n5 (0 : Int)), ((List.replicate n6 false), ((((g_1.1).length : Nat) : Int), ())))))), ())).bind fun (q_38, _) =>
 some (q_38, ())
noncomputable def d_mindeg_quotient_least : ((Option ((List (Option (List (Int × Bool) × Nat))) × ((List (Option (List (Int × Bool) × Nat))) × ((List (Option (List (Int × Bool) × Nat))) × ((List Int) × ((List Bool) × (Int × Unit))))))) × Unit) → Option (Int × Unit) := fun (q_1, _) =>
 (q_1).bind fun y2 =>
 (loop (σ := (Int × Int × Unit)) (ρ := (Int × Unit)) (fun (best_3, s_4, _) =>
 (bif (decide (s_4 < (((y2.2.2.2.1).length : Nat) : Int))) then (
 Option.bind (α := (Int × Unit)) (
 (getI y2.2.2.2.1 s_4).bind fun y5 =>
 Option.bind (α := (Bool × Unit)) (
 (q_1).bind fun y6 =>
 (getI y6.2.2.2.2.1 s_4).bind fun y7 =>
 (bif ((!y7) == true) then ((bif ((decide (best_3 < ((0) : Int))) == false) then ((q_1).bind fun y8 =>
 (getI y8.2.2.2.1 best_3).bind fun y9 =>
 some ((decide (y5 < y9)), ())) else (some (true, ())))) else (some (false, ())))) fun (s_10, _) =>
 (bif s_10 then (
 some (s_4, ())) else (
 some (best_3, ())))) fun (best_11, _) =>
 some (.inl (best_11, (IntKind.i64.wrap (s_4 + ((1) : Int))), ()))) else (
 some (.inr (best_3, ()))))) ((-1 : Int), ((0) : Int), ())).bind fun (best_12, _) =>
 some (best_12, ())
noncomputable def d_mindeg_set_outside : ((Option (List (Int × Bool) × Nat)) × (Option (List (Int × Bool) × Nat)) × Unit) → Option (Int × Unit) := fun (s_1, t_2, _) =>
 (mfold (σ := (Int × Unit)) (fun (n_3, _) => fun k4 =>
 (Option.bind (α := (Int × Unit)) (
 (bif (!((mLk (α := Bool) t_2 k4).getD false)) then (
 some ((IntKind.i64.wrap (n_3 + ((1) : Int))), ())) else (
 some (n_3, ())))) fun q5 =>
 mchk (α := Bool) s_1 s_1 q5)) (mKs (α := Bool) s_1) (((0) : Int), ())).bind fun (n_6, _) =>
 some (n_6, ())
noncomputable def d_mindeg_quotient_bound : ((Option ((List (Option (List (Int × Bool) × Nat))) × ((List (Option (List (Int × Bool) × Nat))) × ((List (Option (List (Int × Bool) × Nat))) × ((List Int) × ((List Bool) × (Int × Unit))))))) × Int × Int × Unit) → Option (Int × Unit) := fun (q_1, i_2, p_3, _) =>
 (q_1).bind fun y4 =>
 (getI y4.2.2.1 p_3).bind fun y5 =>
 (q_1).bind fun y6 =>
 (getI y6.1 i_2).bind fun y7 =>
 (q_1).bind fun y8 =>
 (getI y8.2.1 i_2).bind fun y9 =>
 (mfold (σ := (Int × Unit)) (fun (sum_10, _) => fun k11 =>
 (Option.bind (α := (Int × Unit)) (
 (bif (k11 != p_3) then (
 (q_1).bind fun y12 =>
 (getI y12.2.2.1 k11).bind fun y13 =>
 (q_1).bind fun y14 =>
 (getI y14.2.2.1 p_3).bind fun y15 =>
 (d_mindeg_set_outside (y13, y15, ())).bind fun (r16, _) =>
 some ((IntKind.i64.wrap (sum_10 + r16)), ())) else (
 some (sum_10, ())))) fun q17 =>
 mchk (α := Bool) y9 y9 q17)) (mKs (α := Bool) y9) ((IntKind.i64.wrap ((mLn y7) + (IntKind.i64.wrap ((mLn y5) - ((1) : Int))))), ())).bind fun (sum_18, _) =>
 (q_1).bind fun y19 =>
 (q_1).bind fun y20 =>
 (getI y20.2.2.2.1 i_2).bind fun y21 =>
 some ((if sum_18 < (if (IntKind.i64.wrap (y21 + (IntKind.i64.wrap ((mLn y5) - ((1) : Int))))) < (IntKind.i64.wrap (y19.2.2.2.2.2.1 - ((1) : Int))) then (IntKind.i64.wrap (y21 + (IntKind.i64.wrap ((mLn y5) - ((1) : Int))))) else (IntKind.i64.wrap (y19.2.2.2.2.2.1 - ((1) : Int)))) then sum_18 else (if (IntKind.i64.wrap (y21 + (IntKind.i64.wrap ((mLn y5) - ((1) : Int))))) < (IntKind.i64.wrap (y19.2.2.2.2.2.1 - ((1) : Int))) then (IntKind.i64.wrap (y21 + (IntKind.i64.wrap ((mLn y5) - ((1) : Int))))) else (IntKind.i64.wrap (y19.2.2.2.2.2.1 - ((1) : Int))))), ())
noncomputable def d_mindeg_quotient_eliminate : (((List (Option (List (Int × Bool) × Nat))) × ((List (Option (List (Int × Bool) × Nat))) × ((List (Option (List (Int × Bool) × Nat))) × ((List Int) × ((List Bool) × (Int × Unit)))))) × Int × Unit) → Option (((List (Option (List (Int × Bool) × Nat))) × ((List (Option (List (Int × Bool) × Nat))) × ((List (Option (List (Int × Bool) × Nat))) × ((List Int) × ((List Bool) × (Int × Unit)))))) × Unit) := fun (q_1, p_2, _) =>
 (idxN (q_1.2.2.2.2.1).length p_2).bind fun k3 =>
 ((((((((((((atO q_1.2.2.2.2.1 k3 fun _ => some ((q_1.2.2.2.2.1).set k3 true))).map fun z5 => (z5, q_1.2.2.2.2.2))).map fun z6 => (q_1.2.2.2.1, z6))).map fun z7 => (q_1.2.2.1, z7))).map fun z8 => (q_1.2.1, z8))).map fun z9 => (q_1.1, z9))).bind fun z10 =>
 (idxN ((z10.1, (z10.2.1, (z10.2.2.1, (z10.2.2.2.1, (z10.2.2.2.2.1, ((IntKind.i64.wrap (z10.2.2.2.2.2.1 - ((1) : Int))), z10.2.2.2.2.2.2)))))).1).length p_2).bind fun k11 =>
 ((atO (z10.1, (z10.2.1, (z10.2.2.1, (z10.2.2.2.1, (z10.2.2.2.2.1, ((IntKind.i64.wrap (z10.2.2.2.2.2.1 - ((1) : Int))), z10.2.2.2.2.2.2)))))).1 k11 fun e13 => some e13)).bind fun mm14 =>
 (mfold (σ := (Nat × ((List (Option (List (Int × Bool) × Nat))) × ((List (Option (List (Int × Bool) × Nat))) × ((List (Option (List (Int × Bool) × Nat))) × ((List Int) × ((List Bool) × (Int × Unit)))))) × (Option (List (Int × Bool) × Nat)) × Unit)) (fun (s_15, q_16, all_17, _) => fun k18 =>
 (Option.bind (α := (Nat × ((List (Option (List (Int × Bool) × Nat))) × ((List (Option (List (Int × Bool) × Nat))) × ((List (Option (List (Int × Bool) × Nat))) × ((List Int) × ((List Bool) × (Int × Unit)))))) × (Option (List (Int × Bool) × Nat)) × Unit)) (
 (mUpO all_17 k18 true).bind fun mp19 =>
 some (s_15, q_16, mp19, ())) fun q20 =>
 ((atO q20.2.1.1 q20.1 fun e21 => some e21)).bind fun mm22 =>
 mchk (α := Bool) mm14 mm22 q20)) (mKs (α := Bool) mm14) (k11, (z10.1, (z10.2.1, (z10.2.2.1, (z10.2.2.2.1, (z10.2.2.2.2.1, ((IntKind.i64.wrap (z10.2.2.2.2.2.1 - ((1) : Int))), z10.2.2.2.2.2.2)))))), (some ([], 0)), ())).bind fun (_, q_24, all_25, _) =>
 (idxN (q_24.2.1).length p_2).bind fun k26 =>
 ((atO q_24.2.1 k26 fun e28 => some e28)).bind fun mm29 =>
 (mfold (σ := (Nat × ((List (Option (List (Int × Bool) × Nat))) × ((List (Option (List (Int × Bool) × Nat))) × ((List (Option (List (Int × Bool) × Nat))) × ((List Int) × ((List Bool) × (Int × Unit)))))) × (Option (List (Int × Bool) × Nat)) × Unit)) (fun (s_30, q_31, all_32, _) => fun k33 =>
 (Option.bind (α := (Nat × ((List (Option (List (Int × Bool) × Nat))) × ((List (Option (List (Int × Bool) × Nat))) × ((List (Option (List (Int × Bool) × Nat))) × ((List Int) × ((List Bool) × (Int × Unit)))))) × (Option (List (Int × Bool) × Nat)) × Unit)) (
 (idxN (q_31.2.2.1).length k33).bind fun k34 =>
 ((atO q_31.2.2.1 k34 fun e36 => some e36)).bind fun mm37 =>
 (mfold (σ := (Nat × Nat × ((List (Option (List (Int × Bool) × Nat))) × ((List (Option (List (Int × Bool) × Nat))) × ((List (Option (List (Int × Bool) × Nat))) × ((List Int) × ((List Bool) × (Int × Unit)))))) × (Option (List (Int × Bool) × Nat)) × Unit)) (fun (s_38, s_39, q_40, all_41, _) => fun k42 =>
 (Option.bind (α := (Nat × Nat × ((List (Option (List (Int × Bool) × Nat))) × ((List (Option (List (Int × Bool) × Nat))) × ((List (Option (List (Int × Bool) × Nat))) × ((List Int) × ((List Bool) × (Int × Unit)))))) × (Option (List (Int × Bool) × Nat)) × Unit)) (
 (mUpO all_41 k42 true).bind fun mp43 =>
 some (s_38, s_39, q_40, mp43, ())) fun q44 =>
 ((atO q44.2.2.1.2.2.1 q44.2.1 fun e45 => some e45)).bind fun mm46 =>
 mchk (α := Bool) mm37 mm46 q44)) (mKs (α := Bool) mm37) (s_30, k34, q_31, all_32, ())).bind fun (s_47, _, q_49, all_50, _) =>
 some (s_47, q_49, all_50, ())) fun q51 =>
 ((atO q51.2.1.2.1 q51.1 fun e52 => some e52)).bind fun mm53 =>
 mchk (α := Bool) mm29 mm53 q51)) (mKs (α := Bool) mm29) (k26, q_24, all_25, ())).bind fun (_, q_55, all_56, _) =>
 (mDlO all_56 p_2).bind fun mp57 =>
 (idxN (q_55.2.2.1).length p_2).bind fun k58 =>
 ((((((((atO q_55.2.2.1 k58 fun _ => some ((q_55.2.2.1).set k58 mp57))).map fun z60 => (z60, q_55.2.2.2))).map fun z61 => (q_55.2.1, z61))).map fun z62 => (q_55.1, z62))).bind fun z63 =>
 ((atO z63.2.2.1 k58 fun e64 => some e64)).bind fun mm65 =>
 (mfold (σ := (Nat × Nat × ((List (Option (List (Int × Bool) × Nat))) × ((List (Option (List (Int × Bool) × Nat))) × ((List (Option (List (Int × Bool) × Nat))) × ((List Int) × ((List Bool) × (Int × Unit)))))) × Unit)) (fun (all_66, s_67, q_68, _) => fun k69 =>
 (Option.bind (α := (Nat × Nat × ((List (Option (List (Int × Bool) × Nat))) × ((List (Option (List (Int × Bool) × Nat))) × ((List (Option (List (Int × Bool) × Nat))) × ((List Int) × ((List Bool) × (Int × Unit)))))) × Unit)) (
 (idxN (q_68.1).length k69).bind fun k70 =>
 ((atO q_68.1 k70 fun e72 => some e72)).bind fun mm73 =>
 (mDlO mm73 p_2).bind fun mp74 =>
 ((((atO q_68.1 k70 fun _ => some ((q_68.1).set k70 mp74))).map fun z76 => (z76, q_68.2))).bind fun z77 =>
 ((atO z77.2.2.1 all_66 fun e78 => some e78)).bind fun mm79 =>
 (mfold (σ := (Nat × Nat × Nat × ((List (Option (List (Int × Bool) × Nat))) × ((List (Option (List (Int × Bool) × Nat))) × ((List (Option (List (Int × Bool) × Nat))) × ((List Int) × ((List Bool) × (Int × Unit)))))) × Unit)) (fun (all_80, s_81, s_82, q_83, _) => fun k84 =>
 (Option.bind (α := (Nat × Nat × Nat × ((List (Option (List (Int × Bool) × Nat))) × ((List (Option (List (Int × Bool) × Nat))) × ((List (Option (List (Int × Bool) × Nat))) × ((List Int) × ((List Bool) × (Int × Unit)))))) × Unit)) (
 (idxN (q_83.1).length k69).bind fun k85 =>
 ((atO q_83.1 k85 fun e87 => some e87)).bind fun mm88 =>
 (mDlO mm88 k84).bind fun mp89 =>
 ((((atO q_83.1 k85 fun _ => some ((q_83.1).set k85 mp89))).map fun z91 => (z91, q_83.2))).bind fun z92 =>
 some (all_80, s_81, s_82, z92, ())) fun q93 =>
 ((atO q93.2.2.2.1.2.2.1 q93.2.2.1 fun e94 => some e94)).bind fun mm95 =>
 mchk (α := Bool) mm79 mm95 q93)) (mKs (α := Bool) mm79) (all_66, s_67, all_66, z77, ())).bind fun (all_96, s_97, _, q_99, _) =>
 (idxN (q_99.2.1).length p_2).bind fun k100 =>
 ((atO q_99.2.1 k100 fun e102 => some e102)).bind fun mm103 =>
 (mfold (σ := (Nat × Nat × Nat × ((List (Option (List (Int × Bool) × Nat))) × ((List (Option (List (Int × Bool) × Nat))) × ((List (Option (List (Int × Bool) × Nat))) × ((List Int) × ((List Bool) × (Int × Unit)))))) × Unit)) (fun (all_104, s_105, s_106, q_107, _) => fun k108 =>
 (Option.bind (α := (Nat × Nat × Nat × ((List (Option (List (Int × Bool) × Nat))) × ((List (Option (List (Int × Bool) × Nat))) × ((List (Option (List (Int × Bool) × Nat))) × ((List Int) × ((List Bool) × (Int × Unit)))))) × Unit)) (
 (idxN (q_107.2.1).length k69).bind fun k109 =>
 ((atO q_107.2.1 k109 fun e111 => some e111)).bind fun mm112 =>
 (mDlO mm112 k108).bind fun mp113 =>
 ((((((atO q_107.2.1 k109 fun _ => some ((q_107.2.1).set k109 mp113))).map fun z115 => (z115, q_107.2.2))).map fun z116 => (q_107.1, z116))).bind fun z117 =>
 some (all_104, s_105, s_106, z117, ())) fun q118 =>
 ((atO q118.2.2.2.1.2.1 q118.2.2.1 fun e119 => some e119)).bind fun mm120 =>
 mchk (α := Bool) mm103 mm120 q118)) (mKs (α := Bool) mm103) (all_96, s_97, k100, q_99, ())).bind fun (all_121, s_122, _, q_124, _) =>
 (idxN (q_124.2.1).length k69).bind fun k125 =>
 ((atO q_124.2.1 k125 fun e127 => some e127)).bind fun mm128 =>
 (mUpO mm128 p_2 true).bind fun mp129 =>
 ((((((atO q_124.2.1 k125 fun _ => some ((q_124.2.1).set k125 mp129))).map fun z131 => (z131, q_124.2.2))).map fun z132 => (q_124.1, z132))).bind fun z133 =>
 some (all_121, s_122, z133, ())) fun q134 =>
 ((atO q134.2.2.1.2.2.1 q134.2.1 fun e135 => some e135)).bind fun mm136 =>
 mchk (α := Bool) mm65 mm136 q134)) (mKs (α := Bool) mm65) (k58, k58, z63, ())).bind fun (all_137, _, q_139, _) =>
 ((atO q_139.2.2.1 all_137 fun e140 => some e140)).bind fun mm141 =>
 (mfold (σ := (Nat × ((List (Option (List (Int × Bool) × Nat))) × ((List (Option (List (Int × Bool) × Nat))) × ((List (Option (List (Int × Bool) × Nat))) × ((List Int) × ((List Bool) × (Int × Unit)))))) × Unit)) (fun (s_142, q_143, _) => fun k144 =>
 (Option.bind (α := (Nat × ((List (Option (List (Int × Bool) × Nat))) × ((List (Option (List (Int × Bool) × Nat))) × ((List (Option (List (Int × Bool) × Nat))) × ((List Int) × ((List Bool) × (Int × Unit)))))) × Unit)) (
 (d_mindeg_quotient_bound ((some q_143), k144, p_2, ())).bind fun (r145, _) =>
 (idxN (q_143.2.2.2.1).length k144).bind fun k146 =>
 ((((((((((atO q_143.2.2.2.1 k146 fun _ => some ((q_143.2.2.2.1).set k146 r145))).map fun z148 => (z148, q_143.2.2.2.2))).map fun z149 => (q_143.2.2.1, z149))).map fun z150 => (q_143.2.1, z150))).map fun z151 => (q_143.1, z151))).bind fun z152 =>
 some (s_142, z152, ())) fun q153 =>
 ((atO q153.2.1.2.2.1 q153.1 fun e154 => some e154)).bind fun mm155 =>
 mchk (α := Bool) mm141 mm155 q153)) (mKs (α := Bool) mm141) (all_137, q_139, ())).bind fun (_, q_157, _) =>
 some (q_157, ())
noncomputable def d_mindeg_approx : (((List (List Int)) × Unit) × Unit) → Option ((List Int) × (List Int) × Int × Unit) := fun (g_1, _) =>
 (d_graph_Check (g_1, ())).bind fun (r6, _) =>
 (bif (r6 != ((0) : Int)) then (
 some ([], [], r6, ())) else (
 (d_mindeg_newQuotient (g_1, ())).bind fun (r7, _) =>
 (loop (σ := ((List Int) × (List Int) × ((List (Option (List (Int × Bool) × Nat))) × ((List (Option (List (Int × Bool) × Nat))) × ((List (Option (List (Int × Bool) × Nat))) × ((List Int) × ((List Bool) × (Int × Unit)))))) × Unit)) (ρ := ((List Int) × (List Int) × Unit)) (fun (order_8, bounds_9, q_10, _) =>
 (bif (decide (q_10.2.2.2.2.2.1 > ((0) : Int))) then (
 (d_mindeg_quotient_least ((some q_10), ())).bind fun (r11, _) =>
 (limO ((order_8).length + ([r11]).length)).bind fun _ =>
 (idxN (q_10.2.2.2.1).length r11).bind fun k12 =>
 ((atO q_10.2.2.2.1 k12 fun e13 => some e13)).bind fun y14 =>
 (limO ((bounds_9).length + ([y14]).length)).bind fun _ =>
 (d_mindeg_quotient_eliminate (q_10, r11, ())).bind fun (m15, _) =>
 some (.inl ((order_8 ++ [r11]), (bounds_9 ++ [y14]), m15, ()))) else (
 some (.inr (order_8, bounds_9, ()))))) ([], [], r7, ())).bind fun (order_16, bounds_17, _) =>
 some (order_16, bounds_17, ((0) : Int), ())))
noncomputable def d_mindeg_Approx : (((List (List Int)) × Unit) × Unit) → Option ((List Int) × Int × Unit) := fun (g_1, _) =>
 (d_mindeg_approx (g_1, ())).bind fun (r2, _, r4, _) =>
 some (r2, r4, ())
noncomputable def d_sparselaw16q_MindegForest : (Int × (List Int) × Unit) → Option (Bool × Unit) := fun (n_1, l_2, _) =>
 (d_sparsekit_Place (n_1, ((13) : Int), ())).bind fun (r6, _) =>
 (bif (decide ((((l_2).length : Nat) : Int) > ((80) : Int))) then (
 (d_sparselaw16q_awake ()).bind fun (r7, _) =>
 some (r7, ())) else (
 (d_sparsemake_Tree (r6, l_2, ())).bind fun (r8, _) =>
 (loop (σ := (Int × (List Int) × Unit)) (ρ := ((List Int) × Unit)) (fun (v_9, e_10, _) =>
 (bif (decide (v_9 < r6)) then (
 Option.bind (α := ((List Int) × Unit)) (
 (getI r8 v_9).bind fun y11 =>
 (bif (decide (y11 ≥ ((0) : Int))) then (
 (getI r8 v_9).bind fun y12 =>
 (limO ((e_10).length + ([v_9, y12]).length)).bind fun _ =>
 some ((e_10 ++ [v_9, y12]), ())) else (
 some (e_10, ())))) fun (e_13, _) =>
 some (.inl ((IntKind.i64.wrap (v_9 + ((1) : Int))), e_13, ()))) else (
 some (.inr (e_10, ()))))) (((0) : Int), [], ())).bind fun (e_14, _) =>
 (d_sparsemake_Graph (r6, e_14, ())).bind fun (r15, _) =>
 (d_mindeg_Exact (r15, ())).bind fun (r16, r17, _) =>
 (d_mindeg_Approx (r15, ())).bind fun (r18, r19, _) =>
 (d_mindeg_Degrees (r15, r16, ())).bind fun (r20, r21, _) =>
 (d_mindeg_Degrees (r15, r18, ())).bind fun (r22, r23, _) =>
 Option.bind (α := Unit ⊕ (Bool × Unit)) (
 (bif ((r17 != ((0) : Int)) == false) then ((bif ((r19 != ((0) : Int)) == false) then ((bif ((r21 != ((0) : Int)) == false) then ((bif ((r23 != ((0) : Int)) == false) then ((bif (((((r20).length : Nat) : Int) != r6) == false) then ((bif ((((r22).length : Nat) : Int) != r6) then (
 some (.inr (false, ()))) else (
 some (.inl ())))) else (some (.inr (false, ()))))) else (some (.inr (false, ()))))) else (some (.inr (false, ()))))) else (some (.inr (false, ()))))) else (some (.inr (false, ()))))) fun q => match q with
 | .inl _ => (
 (loop (σ := (Int × Unit)) (ρ := (Unit ⊕ (Bool × Unit))) (fun (k_24, _) =>
 (bif (decide (k_24 < r6)) then (
 Option.bind (α := Unit ⊕ ((Int × Unit) ⊕ (Unit ⊕ (Bool × Unit)))) (
 (getI r20 k_24).bind fun y25 =>
 (bif ((decide (y25 > ((1) : Int))) == false) then ((getI r22 k_24).bind fun y26 =>
 (bif (decide (y26 > ((1) : Int))) then (
 some (.inr (.inr (.inr (false, ()))))) else (
 some (.inl ())))) else (some (.inr (.inr (.inr (false, ()))))))) fun q => match q with
 | .inl _ => (
 some (.inl ((IntKind.i64.wrap (k_24 + ((1) : Int))), ())))
 | .inr r => some r) else (
 some (.inr (.inl ()))))) (((0) : Int), ())).bind fun q => match q with
 | .inl _ => (
 (d_sparselaw16q_awake ()).bind fun (r27, _) =>
 some (r27, ()))
 | .inr r => some r)
 | .inr r => some r))
noncomputable def d_sparselaw16q_small : (((List (List Int)) × Unit) × Unit) → Option (Bool × Unit) := fun (g_1, _) =>
 Option.bind (α := Unit ⊕ (Bool × Unit)) (
 (bif ((decide ((((g_1.1).length : Nat) : Int) > ((10) : Int))) == true) then ((bif ((decide ((((g_1.1).length : Nat) : Int) ≤ ((200) : Int))) == false) then ((bif (decide ((((g_1.1).length : Nat) : Int) > ((400) : Int))) then (
 some (.inr (false, ()))) else (
 some (.inl ())))) else (some (.inr (false, ()))))) else ((bif (decide ((((g_1.1).length : Nat) : Int) > ((400) : Int))) then (
 some (.inr (false, ()))) else (
 some (.inl ())))))) fun q => match q with
 | .inl _ => (
 (loop (σ := (Int × Unit)) (ρ := (Unit ⊕ (Bool × Unit))) (fun (v_2, _) =>
 (bif (decide (v_2 < (((g_1.1).length : Nat) : Int))) then (
 (getI g_1.1 v_2).bind fun y3 =>
 (bif (decide ((((y3).length : Nat) : Int) > ((20) : Int))) then (
 some (.inr (.inr (false, ())))) else (
 some (.inl ((IntKind.i64.wrap (v_2 + ((1) : Int))), ()))))) else (
 some (.inr (.inl ()))))) (((0) : Int), ())).bind fun q => match q with
 | .inl _ => (
 some (true, ()))
 | .inr r => some r)
 | .inr r => some r
noncomputable def d_sparseref16q_size : ((List Bool) × Unit) → Option (Int × Unit) := fun (l_1, _) =>
 (loop (σ := (Int × Int × Unit)) (ρ := (Int × Unit)) (fun (n_2, i_3, _) =>
 (bif (decide (i_3 < (((l_1).length : Nat) : Int))) then (
 Option.bind (α := (Int × Unit)) (
 (getI l_1 i_3).bind fun y4 =>
 (bif y4 then (
 some ((IntKind.i64.wrap (n_2 + ((1) : Int))), ())) else (
 some (n_2, ())))) fun (n_5, _) =>
 some (.inl (n_5, (IntKind.i64.wrap (i_3 + ((1) : Int))), ()))) else (
 some (.inr (n_2, ()))))) (((0) : Int), ((0) : Int), ())).bind fun (n_6, _) =>
 some (n_6, ())
noncomputable def d_sparseref16q_Quotient_step : (((List (List Bool)) × ((List (List Bool)) × ((List (List Bool)) × ((List Int) × ((List Bool) × Unit))))) × Unit) → Option (((List (List Bool)) × ((List (List Bool)) × ((List (List Bool)) × ((List Int) × ((List Bool) × Unit))))) × Int × Int × Unit) := fun (q_1, _) =>
 (loop (σ := (Int × Int × ((List (List Bool)) × ((List (List Bool)) × ((List (List Bool)) × ((List Int) × ((List Bool) × Unit))))) × Unit)) (ρ := (Int × ((List (List Bool)) × ((List (List Bool)) × ((List (List Bool)) × ((List Int) × ((List Bool) × Unit))))) × Unit)) (fun (p_2, v_3, q_4, _) =>
 (bif (decide (v_3 < (((q_1.2.2.2.1).length : Nat) : Int))) then (
 Option.bind (α := (Int × ((List (List Bool)) × ((List (List Bool)) × ((List (List Bool)) × ((List Int) × ((List Bool) × Unit))))) × Unit)) (
 Option.bind (α := (Bool × ((List (List Bool)) × ((List (List Bool)) × ((List (List Bool)) × ((List Int) × ((List Bool) × Unit))))) × Unit)) (
 (idxN (q_4.2.2.2.2.1).length v_3).bind fun k5 =>
 ((atO q_4.2.2.2.2.1 k5 fun e6 => some e6)).bind fun y7 =>
 (bif ((!y7) == true) then ((bif ((decide (p_2 < ((0) : Int))) == false) then ((idxN (q_4.2.2.2.1).length v_3).bind fun k8 =>
 ((atO q_4.2.2.2.1 k8 fun e9 => some e9)).bind fun y10 =>
 (idxN (q_4.2.2.2.1).length p_2).bind fun k11 =>
 ((atO q_4.2.2.2.1 k11 fun e12 => some e12)).bind fun y13 =>
 some ((decide (y10 < y13)), q_4, ())) else (some (true, q_4, ())))) else (some (false, q_4, ())))) fun (s_14, q_15, _) =>
 (bif s_14 then (
 some (v_3, q_15, ())) else (
 some (p_2, q_15, ())))) fun (p_16, q_17, _) =>
 some (.inl (p_16, (IntKind.i64.wrap (v_3 + ((1) : Int))), q_17, ()))) else (
 some (.inr (p_2, q_4, ()))))) ((-1 : Int), ((0) : Int), q_1, ())).bind fun (p_18, q_19, _) =>
 (idxN (q_19.2.2.2.1).length p_18).bind fun k20 =>
 ((atO q_19.2.2.2.1 k20 fun e21 => some e21)).bind fun y22 =>
 (idxN (q_19.2.2.2.2.1).length p_18).bind fun k23 =>
 ((((((((((((atO q_19.2.2.2.2.1 k23 fun _ => some ((q_19.2.2.2.2.1).set k23 true))).map fun z25 => (z25, q_19.2.2.2.2.2))).map fun z26 => (q_19.2.2.2.1, z26))).map fun z27 => (q_19.2.2.1, z27))).map fun z28 => (q_19.2.1, z28))).map fun z29 => (q_19.1, z29))).bind fun z30 =>
 (loop (σ := (Int × ((List (List Bool)) × ((List (List Bool)) × ((List (List Bool)) × ((List Int) × ((List Bool) × Unit))))) × Unit)) (ρ := (((List (List Bool)) × ((List (List Bool)) × ((List (List Bool)) × ((List Int) × ((List Bool) × Unit))))) × Unit)) (fun (v_31, q_32, _) =>
 (bif (decide (v_31 < (((q_1.2.2.2.1).length : Nat) : Int))) then (
 Option.bind (α := (((List (List Bool)) × ((List (List Bool)) × ((List (List Bool)) × ((List Int) × ((List Bool) × Unit))))) × Unit)) (
 (idxN (q_32.1).length p_18).bind fun k33 =>
 (((atO q_32.1 k33 fun e35 => some e35)).bind fun e36 => idxN (e36).length v_31).bind fun k37 =>
 ((atO q_32.1 k33 fun e38 => (atO e38 k37 fun e39 => some e39))).bind fun y40 =>
 (loop (σ := (Bool × Int × ((List (List Bool)) × ((List (List Bool)) × ((List (List Bool)) × ((List Int) × ((List Bool) × Unit))))) × Unit)) (ρ := (Bool × ((List (List Bool)) × ((List (List Bool)) × ((List (List Bool)) × ((List Int) × ((List Bool) × Unit))))) × Unit)) (fun (in_41, e_42, q_43, _) =>
 (bif (decide (e_42 < (((q_1.2.2.2.1).length : Nat) : Int))) then (
 Option.bind (α := (Bool × ((List (List Bool)) × ((List (List Bool)) × ((List (List Bool)) × ((List Int) × ((List Bool) × Unit))))) × Unit)) (
 (bif (in_41 == false) then ((idxN (q_43.2.1).length p_18).bind fun k44 =>
 (((atO q_43.2.1 k44 fun e46 => some e46)).bind fun e47 => idxN (e47).length e_42).bind fun k48 =>
 ((atO q_43.2.1 k44 fun e49 => (atO e49 k48 fun e50 => some e50))).bind fun y51 =>
 (bif (y51 == true) then ((idxN (q_43.2.2.1).length e_42).bind fun k52 =>
 (((atO q_43.2.2.1 k52 fun e54 => some e54)).bind fun e55 => idxN (e55).length v_31).bind fun k56 =>
 ((atO q_43.2.2.1 k52 fun e57 => (atO e57 k56 fun e58 => some e58))).bind fun y59 =>
 some (y59, q_43, ())) else (some (false, q_43, ())))) else (some (true, q_43, ())))) fun (in_60, q_61, _) =>
 some (.inl (in_60, (IntKind.i64.wrap (e_42 + ((1) : Int))), q_61, ()))) else (
 some (.inr (in_41, q_43, ()))))) (y40, ((0) : Int), q_32, ())).bind fun (in_62, q_63, _) =>
 (idxN (q_63.2.2.1).length p_18).bind fun k64 =>
 (bif (in_62 == true) then ((((atO q_63.2.2.1 k64 fun e66 => some e66)).bind fun e67 => idxN (e67).length v_31).bind fun k68 =>
 ((((((((atO q_63.2.2.1 k64 fun e69 => ((atO e69 k68 fun _ => some ((e69).set k68 (v_31 != p_18)))).map fun z71 => (q_63.2.2.1).set k64 z71)).map fun z72 => (z72, q_63.2.2.2))).map fun z73 => (q_63.2.1, z73))).map fun z74 => (q_63.1, z74))).bind fun z75 =>
 some (z75, ())) else ((((atO q_63.2.2.1 k64 fun e76 => some e76)).bind fun e77 => idxN (e77).length v_31).bind fun k78 =>
 ((((((((atO q_63.2.2.1 k64 fun e79 => ((atO e79 k78 fun _ => some ((e79).set k78 false))).map fun z81 => (q_63.2.2.1).set k64 z81)).map fun z82 => (z82, q_63.2.2.2))).map fun z83 => (q_63.2.1, z83))).map fun z84 => (q_63.1, z84))).bind fun z85 =>
 some (z85, ())))) fun (q_86, _) =>
 some (.inl ((IntKind.i64.wrap (v_31 + ((1) : Int))), q_86, ()))) else (
 some (.inr (q_32, ()))))) (((0) : Int), z30, ())).bind fun (q_87, _) =>
 (idxN (q_87.2.1).length p_18).bind fun k88 =>
 (d_sparseref16q_size (q_87.2.2.2.2.1, ())).bind fun (r90, _) =>
 (loop (σ := (Nat × Int × ((List (List Bool)) × ((List (List Bool)) × ((List (List Bool)) × ((List Int) × ((List Bool) × Unit))))) × Unit)) (ρ := (((List (List Bool)) × ((List (List Bool)) × ((List (List Bool)) × ((List Int) × ((List Bool) × Unit))))) × Unit)) (fun (old_91, i_92, q_93, _) =>
 (bif (decide (i_92 < (((q_1.2.2.2.1).length : Nat) : Int))) then (
 Option.bind (α := (Nat × ((List (List Bool)) × ((List (List Bool)) × ((List (List Bool)) × ((List Int) × ((List Bool) × Unit))))) × Unit)) (
 (idxN (q_93.2.2.1).length p_18).bind fun k94 =>
 (((atO q_93.2.2.1 k94 fun e96 => some e96)).bind fun e97 => idxN (e97).length i_92).bind fun k98 =>
 ((atO q_93.2.2.1 k94 fun e99 => (atO e99 k98 fun e100 => some e100))).bind fun y101 =>
 (bif (!y101) then (
 some (old_91, q_93, ())) else (
 (loop (σ := (Nat × Int × ((List (List Bool)) × ((List (List Bool)) × ((List (List Bool)) × ((List Int) × ((List Bool) × Unit))))) × Unit)) (ρ := (Nat × ((List (List Bool)) × ((List (List Bool)) × ((List (List Bool)) × ((List Int) × ((List Bool) × Unit))))) × Unit)) (fun (old_102, v_103, q_104, _) =>
 (bif (decide (v_103 < (((q_1.2.2.2.1).length : Nat) : Int))) then (
 Option.bind (α := (Nat × ((List (List Bool)) × ((List (List Bool)) × ((List (List Bool)) × ((List Int) × ((List Bool) × Unit))))) × Unit)) (
 Option.bind (α := (Nat × ((List (List Bool)) × ((List (List Bool)) × ((List (List Bool)) × ((List Int) × ((List Bool) × Unit))))) × Unit)) (
 (idxN (q_104.1).length i_92).bind fun k105 =>
 (idxN (q_104.1).length i_92).bind fun k107 =>
 (((atO q_104.1 k107 fun e109 => some e109)).bind fun e110 => idxN (e110).length v_103).bind fun k111 =>
 ((atO q_104.1 k107 fun e112 => (atO e112 k111 fun e113 => some e113))).bind fun y114 =>
 (bif (y114 == true) then ((bif ((v_103 != p_18) == true) then ((idxN (q_104.2.2.1).length p_18).bind fun k115 =>
 (((atO q_104.2.2.1 k115 fun e117 => some e117)).bind fun e118 => idxN (e118).length v_103).bind fun k119 =>
 ((atO q_104.2.2.1 k115 fun e120 => (atO e120 k119 fun e121 => some e121))).bind fun y122 =>
 (((atO q_104.1 k105 fun e123 => some e123)).bind fun e124 => idxN (e124).length v_103).bind fun k125 =>
 ((((atO q_104.1 k105 fun e126 => ((atO e126 k125 fun _ => some ((e126).set k125 (!y122)))).map fun z128 => (q_104.1).set k105 z128)).map fun z129 => (z129, q_104.2))).bind fun z130 =>
 some (old_102, z130, ())) else ((((atO q_104.1 k105 fun e131 => some e131)).bind fun e132 => idxN (e132).length v_103).bind fun k133 =>
 ((((atO q_104.1 k105 fun e134 => ((atO e134 k133 fun _ => some ((e134).set k133 false))).map fun z136 => (q_104.1).set k105 z136)).map fun z137 => (z137, q_104.2))).bind fun z138 =>
 some (old_102, z138, ())))) else ((((atO q_104.1 k105 fun e139 => some e139)).bind fun e140 => idxN (e140).length v_103).bind fun k141 =>
 ((((atO q_104.1 k105 fun e142 => ((atO e142 k141 fun _ => some ((e142).set k141 false))).map fun z144 => (q_104.1).set k105 z144)).map fun z145 => (z145, q_104.2))).bind fun z146 =>
 some (old_102, z146, ())))) fun (old_147, q_148, _) =>
 (idxN (q_148.2.1).length i_92).bind fun k149 =>
 (idxN (q_148.2.1).length i_92).bind fun k151 =>
 (((atO q_148.2.1 k151 fun e153 => some e153)).bind fun e154 => idxN (e154).length v_103).bind fun k155 =>
 ((atO q_148.2.1 k151 fun e156 => (atO e156 k155 fun e157 => some e157))).bind fun y158 =>
 (bif (y158 == true) then ((((atO q_148.2.1 old_147 fun e159 => some e159)).bind fun e160 => idxN (e160).length v_103).bind fun k161 =>
 ((atO q_148.2.1 old_147 fun e162 => (atO e162 k161 fun e163 => some e163))).bind fun y164 =>
 (bif ((!y164) == false) then ((((atO q_148.2.1 k149 fun e165 => some e165)).bind fun e166 => idxN (e166).length v_103).bind fun k167 =>
 ((((((atO q_148.2.1 k149 fun e168 => ((atO e168 k167 fun _ => some ((e168).set k167 (v_103 == p_18)))).map fun z170 => (q_148.2.1).set k149 z170)).map fun z171 => (z171, q_148.2.2))).map fun z172 => (q_148.1, z172))).bind fun z173 =>
 some (old_147, z173, ())) else ((((atO q_148.2.1 k149 fun e174 => some e174)).bind fun e175 => idxN (e175).length v_103).bind fun k176 =>
 ((((((atO q_148.2.1 k149 fun e177 => ((atO e177 k176 fun _ => some ((e177).set k176 true))).map fun z179 => (q_148.2.1).set k149 z179)).map fun z180 => (z180, q_148.2.2))).map fun z181 => (q_148.1, z181))).bind fun z182 =>
 some (old_147, z182, ())))) else ((((atO q_148.2.1 k149 fun e183 => some e183)).bind fun e184 => idxN (e184).length v_103).bind fun k185 =>
 ((((((atO q_148.2.1 k149 fun e186 => ((atO e186 k185 fun _ => some ((e186).set k185 (v_103 == p_18)))).map fun z188 => (q_148.2.1).set k149 z188)).map fun z189 => (z189, q_148.2.2))).map fun z190 => (q_148.1, z190))).bind fun z191 =>
 some (old_147, z191, ())))) fun (old_192, q_193, _) =>
 some (.inl (old_192, (IntKind.i64.wrap (v_103 + ((1) : Int))), q_193, ()))) else (
 some (.inr (old_102, q_104, ()))))) (old_91, ((0) : Int), q_93, ())).bind fun (old_194, q_195, _) =>
 some (old_194, q_195, ())))) fun (old_196, q_197, _) =>
 some (.inl (old_196, (IntKind.i64.wrap (i_92 + ((1) : Int))), q_197, ()))) else (
 some (.inr (q_93, ()))))) (k88, ((0) : Int), q_87, ())).bind fun (q_198, _) =>
 (loop (σ := (Int × ((List (List Bool)) × ((List (List Bool)) × ((List (List Bool)) × ((List Int) × ((List Bool) × Unit))))) × Unit)) (ρ := (((List (List Bool)) × ((List (List Bool)) × ((List (List Bool)) × ((List Int) × ((List Bool) × Unit))))) × Unit)) (fun (i_199, q_200, _) =>
 (bif (decide (i_199 < (((q_1.2.2.2.1).length : Nat) : Int))) then (
 Option.bind (α := (((List (List Bool)) × ((List (List Bool)) × ((List (List Bool)) × ((List Int) × ((List Bool) × Unit))))) × Unit)) (
 (idxN (q_200.2.2.1).length p_18).bind fun k201 =>
 (((atO q_200.2.2.1 k201 fun e203 => some e203)).bind fun e204 => idxN (e204).length i_199).bind fun k205 =>
 ((atO q_200.2.2.1 k201 fun e206 => (atO e206 k205 fun e207 => some e207))).bind fun y208 =>
 (bif (!y208) then (
 some (q_200, ())) else (
 (idxN (q_200.2.2.1).length p_18).bind fun k209 =>
 ((atO q_200.2.2.1 k209 fun e211 => some e211)).bind fun a212 =>
 (d_sparseref16q_size (a212, ())).bind fun (r213, _) =>
 (idxN (q_200.1).length i_199).bind fun k214 =>
 ((atO q_200.1 k214 fun e216 => some e216)).bind fun a217 =>
 (d_sparseref16q_size (a217, ())).bind fun (r218, _) =>
 (loop (σ := (Int × Int × ((List (List Bool)) × ((List (List Bool)) × ((List (List Bool)) × ((List Int) × ((List Bool) × Unit))))) × Unit)) (ρ := (Int × ((List (List Bool)) × ((List (List Bool)) × ((List (List Bool)) × ((List Int) × ((List Bool) × Unit))))) × Unit)) (fun (third_219, e_220, q_221, _) =>
 (bif (decide (e_220 < (((q_1.2.2.2.1).length : Nat) : Int))) then (
 (loop (σ := (Int × Int × ((List (List Bool)) × ((List (List Bool)) × ((List (List Bool)) × ((List Int) × ((List Bool) × Unit))))) × Unit)) (ρ := (Int × ((List (List Bool)) × ((List (List Bool)) × ((List (List Bool)) × ((List Int) × ((List Bool) × Unit))))) × Unit)) (fun (third_222, v_223, q_224, _) =>
 Option.bind (α := (((List (List Bool)) × ((List (List Bool)) × ((List (List Bool)) × ((List Int) × ((List Bool) × Unit))))) × Unit) ⊕ ((Int × Int × ((List (List Bool)) × ((List (List Bool)) × ((List (List Bool)) × ((List Int) × ((List Bool) × Unit))))) × Unit) ⊕ (Int × ((List (List Bool)) × ((List (List Bool)) × ((List (List Bool)) × ((List Int) × ((List Bool) × Unit))))) × Unit))) (
 (bif ((decide (v_223 < (((q_1.2.2.2.1).length : Nat) : Int))) == true) then ((idxN (q_224.2.1).length i_199).bind fun k225 =>
 (((atO q_224.2.1 k225 fun e227 => some e227)).bind fun e228 => idxN (e228).length e_220).bind fun k229 =>
 ((atO q_224.2.1 k225 fun e230 => (atO e230 k229 fun e231 => some e231))).bind fun y232 =>
 (bif (y232 == true) then ((bif (e_220 != p_18) then (
 some (.inl (q_224, ()))) else (
 some (.inr (.inr (third_222, q_224, ())))))) else (some (.inr (.inr (third_222, q_224, ())))))) else (some (.inr (.inr (third_222, q_224, ())))))) fun q => match q with
 | .inl (q_233, _) => (
 Option.bind (α := (Int × ((List (List Bool)) × ((List (List Bool)) × ((List (List Bool)) × ((List Int) × ((List Bool) × Unit))))) × Unit)) (
 Option.bind (α := (Bool × ((List (List Bool)) × ((List (List Bool)) × ((List (List Bool)) × ((List Int) × ((List Bool) × Unit))))) × Unit)) (
 (idxN (q_233.2.2.1).length e_220).bind fun k234 =>
 (((atO q_233.2.2.1 k234 fun e236 => some e236)).bind fun e237 => idxN (e237).length v_223).bind fun k238 =>
 ((atO q_233.2.2.1 k234 fun e239 => (atO e239 k238 fun e240 => some e240))).bind fun y241 =>
 (bif (y241 == true) then ((idxN (q_233.2.2.1).length p_18).bind fun k242 =>
 (((atO q_233.2.2.1 k242 fun e244 => some e244)).bind fun e245 => idxN (e245).length v_223).bind fun k246 =>
 ((atO q_233.2.2.1 k242 fun e247 => (atO e247 k246 fun e248 => some e248))).bind fun y249 =>
 some ((!y249), q_233, ())) else (some (false, q_233, ())))) fun (s_250, q_251, _) =>
 (bif s_250 then (
 some ((IntKind.i64.wrap (third_222 + ((1) : Int))), q_251, ())) else (
 some (third_222, q_251, ())))) fun (third_252, q_253, _) =>
 some (.inl (third_252, (IntKind.i64.wrap (v_223 + ((1) : Int))), q_253, ())))
 | .inr r => some r) (third_219, ((0) : Int), q_221, ())).bind fun (third_254, q_255, _) =>
 some (.inl (third_254, (IntKind.i64.wrap (e_220 + ((1) : Int))), q_255, ()))) else (
 some (.inr (third_219, q_221, ()))))) ((IntKind.i64.wrap (r218 + (IntKind.i64.wrap (r213 - ((1) : Int))))), ((0) : Int), q_200, ())).bind fun (third_256, q_257, _) =>
 (idxN (q_257.2.2.2.1).length i_199).bind fun k258 =>
 ((atO q_257.2.2.2.1 k258 fun e259 => some e259)).bind fun y260 =>
 (idxN (q_257.2.2.2.1).length i_199).bind fun k261 =>
 ((((((((((atO q_257.2.2.2.1 k261 fun _ => some ((q_257.2.2.2.1).set k261 (if third_256 < (if (IntKind.i64.wrap (y260 + (IntKind.i64.wrap (r213 - ((1) : Int))))) < (IntKind.i64.wrap ((IntKind.i64.wrap ((((q_1.2.2.2.1).length : Nat) : Int) - r90)) - ((1) : Int))) then (IntKind.i64.wrap (y260 + (IntKind.i64.wrap (r213 - ((1) : Int))))) else (IntKind.i64.wrap ((IntKind.i64.wrap ((((q_1.2.2.2.1).length : Nat) : Int) - r90)) - ((1) : Int)))) then third_256 else (if (IntKind.i64.wrap (y260 + (IntKind.i64.wrap (r213 - ((1) : Int))))) < (IntKind.i64.wrap ((IntKind.i64.wrap ((((q_1.2.2.2.1).length : Nat) : Int) - r90)) - ((1) : Int))) then (IntKind.i64.wrap (y260 + (IntKind.i64.wrap (r213 - ((1) : Int))))) else (IntKind.i64.wrap ((IntKind.i64.wrap ((((q_1.2.2.2.1).length : Nat) : Int) - r90)) - ((1) : Int)))))))).map fun z263 => (z263, q_257.2.2.2.2))).map fun z264 => (q_257.2.2.1, z264))).map fun z265 => (q_257.2.1, z265))).map fun z266 => (q_257.1, z266))).bind fun z267 =>
 some (z267, ())))) fun (q_268, _) =>
 some (.inl ((IntKind.i64.wrap (i_199 + ((1) : Int))), q_268, ()))) else (
 some (.inr (q_200, ()))))) (((0) : Int), q_198, ())).bind fun (q_269, _) =>
 some (q_269, p_18, y22, ())
noncomputable def d_sparseref16q_Method : (((List (List Int)) × Unit) × Unit) → Option ((List Int) × (List Int) × Unit) := fun (g_1, _) =>
 (d_sparseref12q_Table (g_1, ())).bind fun (r18, _) =>
 (madeO (((g_1.1).length : Nat) : Int) (((g_1.1).length : Nat) : Int)).bind fun n19 =>
 (loop (σ := (Int × ((List (List Bool)) × ((List (List Bool)) × ((List (List Bool)) × ((List Int) × ((List Bool) × Unit))))) × Unit)) (ρ := (((List (List Bool)) × ((List (List Bool)) × ((List (List Bool)) × ((List Int) × ((List Bool) × Unit))))) × Unit)) (fun (v_20, q_21, _) =>
 (bif (decide (v_20 < (((g_1.1).length : Nat) : Int))) then (
 (madeO (((g_1.1).length : Nat) : Int) (((g_1.1).length : Nat) : Int)).bind fun n22 =>
 (limO ((q_21.2.1).length + ([(List.replicate n22 false)]).length)).bind fun _ =>
 (madeO (((g_1.1).length : Nat) : Int) (((g_1.1).length : Nat) : Int)).bind fun n23 =>
 (limO (((q_21.1, ((q_21.2.1 ++ [(List.replicate n22 false)]), q_21.2.2)).2.2.1).length + ([(List.replicate n23 false)]).length)).bind fun _ =>
 (getI g_1.1 v_20).bind fun y24 =>
 (limO ((((q_21.1, ((q_21.2.1 ++ [(List.replicate n22 false)]), q_21.2.2)).1, ((q_21.1, ((q_21.2.1 ++ [(List.replicate n22 false)]), q_21.2.2)).2.1, (((q_21.1, ((q_21.2.1 ++ [(List.replicate n22 false)]), q_21.2.2)).2.2.1 ++ [(List.replicate n23 false)]), (q_21.1, ((q_21.2.1 ++ [(List.replicate n22 false)]), q_21.2.2)).2.2.2))).2.2.2.1).length + ([(((y24).length : Nat) : Int)]).length)).bind fun _ =>
 some (.inl ((IntKind.i64.wrap (v_20 + ((1) : Int))), (((q_21.1, ((q_21.2.1 ++ [(List.replicate n22 false)]), q_21.2.2)).1, ((q_21.1, ((q_21.2.1 ++ [(List.replicate n22 false)]), q_21.2.2)).2.1, (((q_21.1, ((q_21.2.1 ++ [(List.replicate n22 false)]), q_21.2.2)).2.2.1 ++ [(List.replicate n23 false)]), (q_21.1, ((q_21.2.1 ++ [(List.replicate n22 false)]), q_21.2.2)).2.2.2))).1, (((q_21.1, ((q_21.2.1 ++ [(List.replicate n22 false)]), q_21.2.2)).1, ((q_21.1, ((q_21.2.1 ++ [(List.replicate n22 false)]), q_21.2.2)).2.1, (((q_21.1, ((q_21.2.1 ++ [(List.replicate n22 false)]), q_21.2.2)).2.2.1 ++ [(List.replicate n23 false)]), (q_21.1, ((q_21.2.1 ++ [(List.replicate n22 false)]), q_21.2.2)).2.2.2))).2.1, (((q_21.1, ((q_21.2.1 ++ [(List.replicate n22 false)]), q_21.2.2)).1, ((q_21.1, ((q_21.2.1 ++ [(List.replicate n22 false)]), q_21.2.2)).2.1, (((q_21.1, ((q_21.2.1 ++ [(List.replicate n22 false)]), q_21.2.2)).2.2.1 ++ [(List.replicate n23 false)]), (q_21.1, ((q_21.2.1 ++ [(List.replicate n22 false)]), q_21.2.2)).2.2.2))).2.2.1, ((((q_21.1, ((q_21.2.1 ++ [(List.replicate n22 false)]), q_21.2.2)).1, ((q_21.1, ((q_21.2.1 ++ [(List.replicate n22 false)]), q_21.2.2)).2.1, (((q_21.1, ((q_21.2.1 ++ [(List.replicate n22 false)]), q_21.2.2)).2.2.1 ++ [(List.replicate n23 false)]), (q_21.1, ((q_21.2.1 ++ [(List.replicate n22 false)]), q_21.2.2)).2.2.2))).2.2.2.1 ++ [(((y24).length : Nat) : Int)]), ((q_21.1, ((q_21.2.1 ++ [(List.replicate n22 false)]), q_21.2.2)).1, ((q_21.1, ((q_21.2.1 ++ [(List.replicate n22 false)]), q_21.2.2)).2.1, (((q_21.1, ((q_21.2.1 ++ [(List.replicate n22 false)]), q_21.2.2)).2.2.1 ++ [(List.replicate n23 false)]), (q_21.1, ((q_21.2.1 ++ [(List.replicate n22 false)]), q_21.2.2)).2.2.2))).2.2.2.2)))), ()))) else (
 some (.inr (q_21, ()))))) (((0) : Int), (r18, (([] : (List (List Bool))), (([] : (List (List Bool))), (([] : (List Int)), ((List.replicate n19 false), ()))))), ())).bind fun (q_25, _) =>
 (loop (σ := (Int × ((List (List Bool)) × ((List (List Bool)) × ((List (List Bool)) × ((List Int) × ((List Bool) × Unit))))) × (List Int) × (List Int) × Unit)) (ρ := ((List Int) × (List Int) × Unit)) (fun (k_26, q_27, order_28, ds_29, _) =>
 (bif (decide (k_26 < (((g_1.1).length : Nat) : Int))) then (
 (d_sparseref16q_Quotient_step (q_27, ())).bind fun (m30, r31, r32, _) =>
 (limO ((order_28).length + ([r31]).length)).bind fun _ =>
 (limO ((ds_29).length + ([r32]).length)).bind fun _ =>
 some (.inl ((IntKind.i64.wrap (k_26 + ((1) : Int))), m30, (order_28 ++ [r31]), (ds_29 ++ [r32]), ()))) else (
 some (.inr (order_28, ds_29, ()))))) (((0) : Int), q_25, [], [], ())).bind fun (order_33, ds_34, _) =>
 some (order_33, ds_34, ())
noncomputable def d_sparseref16q_Approx : (((List (List Int)) × Unit) × Unit) → Option ((List Int) × Int × Unit) := fun (g_1, _) =>
 (d_sparseref12q_Check (g_1, ())).bind fun (r2, _) =>
 (bif (r2 != ((0) : Int)) then (
 some ([], r2, ())) else (
 (d_sparseref16q_Method (g_1, ())).bind fun (r3, _, _) =>
 some (r3, ((0) : Int), ())))
noncomputable def d_mindeg_Bounds : (((List (List Int)) × Unit) × Unit) → Option ((List Int) × Int × Unit) := fun (g_1, _) =>
 (d_mindeg_approx (g_1, ())).bind fun (_, r3, r4, _) =>
 some (r3, r4, ())
noncomputable def d_sparseref16q_Bounds : (((List (List Int)) × Unit) × Unit) → Option ((List Int) × Int × Unit) := fun (g_1, _) =>
 (d_sparseref12q_Check (g_1, ())).bind fun (r2, _) =>
 (bif (r2 != ((0) : Int)) then (
 some ([], r2, ())) else (
 (d_sparseref16q_Method (g_1, ())).bind fun (_, r4, _) =>
 some (r4, ((0) : Int), ())))
noncomputable def d_sparselaw16q_MindegAny : (((List (List Int)) × Unit) × (List Int) × Unit) → Option (Bool × Unit) := fun (g_1, order_2, _) =>
 Option.bind (α := Unit ⊕ (Bool × Unit)) (
 Option.bind (α := (Bool × Unit)) (
 (d_sparselaw16q_small (g_1, ())).bind fun (r3, _) =>
 (bif ((!r3) == false) then (some ((decide ((((order_2).length : Nat) : Int) > ((20) : Int))), ())) else (some (true, ())))) fun (s_4, _) =>
 (bif s_4 then (
 (d_sparselaw16q_awake ()).bind fun (r5, _) =>
 some (.inr (r5, ()))) else (
 some (.inl ())))) fun q => match q with
 | .inl _ => (
 (d_sparsekit_TwinGraph (g_1, ())).bind fun (r6, _) =>
 (d_mindeg_Exact (r6, ())).bind fun (r7, r8, _) =>
 (d_sparseref16q_Exact (g_1, ())).bind fun (r9, r10, _) =>
 (d_mindeg_Approx (r6, ())).bind fun (r11, r12, _) =>
 (d_sparseref16q_Approx (g_1, ())).bind fun (r13, r14, _) =>
 (d_mindeg_Bounds (r6, ())).bind fun (r15, r16, _) =>
 (d_sparseref16q_Bounds (g_1, ())).bind fun (r17, r18, _) =>
 (d_mindeg_Degrees (r6, order_2, ())).bind fun (r19, r20, _) =>
 (d_sparseref16q_Degrees (g_1, order_2, ())).bind fun (r21, r22, _) =>
 (d_sparsekit_Ints (r7, r9, ())).bind fun (r23, _) =>
 (bif (r23 == true) then ((bif ((r8 == r10) == true) then ((d_sparsekit_Ints (r11, r13, ())).bind fun (r24, _) =>
 (bif (r24 == true) then ((bif ((r12 == r14) == true) then ((d_sparsekit_Ints (r15, r17, ())).bind fun (r25, _) =>
 (bif (r25 == true) then ((bif ((r16 == r18) == true) then ((d_sparsekit_Ints (r19, r21, ())).bind fun (r26, _) =>
 (bif (r26 == true) then ((bif ((r20 == r22) == true) then ((d_sparsekit_Graph (r6, g_1, ())).bind fun (r27, _) =>
 (bif (r27 == true) then ((d_sparselaw16q_awake ()).bind fun (r28, _) =>
 some (r28, ())) else (some (false, ())))) else (some (false, ())))) else (some (false, ())))) else (some (false, ())))) else (some (false, ())))) else (some (false, ())))) else (some (false, ())))) else (some (false, ())))) else (some (false, ()))))
 | .inr r => some r
end Go.Fw
end
section
namespace Go.Proofs
open Go.RowKit Go.Shelf Go.Sort
attribute [local go_sem] Oper.semAt_some
def Try.laysCompact_ren : Go.Shelf.Ren := ⟨fun | 20 => 62 | n => n, fun | 22 => 22 | 3 => 3 | 4 => 4 | 0 => 0 | n => n, fun | n => n⟩
theorem Try.laysCompact : Lays2.n20 Try.prog Try.laysCompact_ren where
 mixed := by kernel_rfl
 f20 := Try.func62.trans (congrArg some (by kernel_rfl))
 t0 := Try.underlying0
 a0 := Try.isAgg0
 z0 := Try.sizeOf0
 v0 := Try.zeroValue0
 t3 := Try.underlying3
 a3 := Try.isAgg3
 z3 := Try.sizeOf3
 v3 := Try.zeroValue3
 t4 := Try.underlying4
 a4 := Try.isAgg4
 z4 := Try.sizeOf4
 v4 := Try.zeroValue4
 t22 := Try.underlying22
 a22 := Try.isAgg22
 z22 := Try.sizeOf22
 v22 := Try.zeroValue22
 i3 := by kernel_rfl
namespace Tw
def upto {α : Type} (f : Nat → α) (k : Nat) : List α := (List.range k).map f
theorem upto_succ {α : Type} (f : Nat → α) (k : Nat) : upto f (k + 1) = upto f k ++ [f k] := by simp [upto, List.range_succ]
theorem upto_length {α : Type} (f : Nat → α) (k : Nat) : (upto f k).length = k := by simp [upto]
theorem upto_all (zs : List Int) : upto (fun j => zs[j]?.getD 0) zs.length = zs := by
 apply List.ext_getElem
 ·simp [upto]
 ·intro i h1 h2
  simp [upto, h2]
set_option maxRecDepth 100000 in
set_option maxHeartbeats 2000000 in
theorem valuesA_in (F : Fence) (n : Nat) (h7 : F.fn 71) (hro : F.round = none) (hn : 1 ≤ n) (l Bs n₀ b off len cap : Nat) (zs : List Int) (hreach : len * 8 ≤ 140737488351232) (hb : b < n₀) (J Jx : List Int → World → Prop)
  (hY : ∀ pre x W, J pre W → pre.length < len → YieldAt F (n - 1) Try.prog l #[.int .i64 x] W fun e W' =>
    (e = .returned (.bool true) ∧ J (pre ++ [x]) W' ∧ Below n₀ W W') ∨ (e = .returned (.bool false) ∧ Jx (pre ++ [x]) W'))
  (W : World) (hBs : W.cell? ⟨Bs, 0, none⟩ = some (.slice (some ⟨b, off, none⟩) len cap)) (hc : ∀ j, j < len → W.cell? ⟨b, off + j, none⟩ = some (.int .i64 (zs[j]?.getD 0))) (h0 : J [] W) :
  CallsIn F n Try.prog 71 #[.func (.yield l) #[] #[], .pointer (some ⟨Bs, 0, none⟩)] W fun e W' => (∃ v, e = .returned v) ∧
   ((∃ ys, ys = upto (fun j => zs[j]?.getD 0) len ∧ J ys W') ∨ (∃ pre, (∃ k, k ≤ len ∧ pre = upto (fun j => zs[j]?.getD 0) k) ∧ Jx pre W')) := by
 refine callsIn_of_wp Try.func71 rfl h7 ?_ hro
 simp only [Try.ntmps71, List.size_toArray, List.length_cons, List.length_nil, Nat.reduceAdd, Nat.reduceSub, Array.replicate_succ, Array.replicate_zero, List.push_toArray, List.append_toArray, List.nil_append, List.cons_append]
 gi_wp2
 gi_loopw [7] (fun i wr => ∃ k : Nat, k ≤ len ∧ i = .int .i64 k ∧ J (upto (fun j => zs[j]?.getD 0) k) wr ∧ Below n₀ W wr)
  (fun i _ => len - (intOf i).toNat)
 case atStart => exact ⟨0, Nat.zero_le _, rfl, h0, Below.refl _ _⟩
 case round =>
  obtain ⟨k, hk, rfl, hJs, hnx⟩ := hrel
  have hcx : k < len → wr.cell? ⟨b, off + k, none⟩ = some (.int .i64 (zs[k]?.getD 0)) := fun h => (hnx.cell (p := ⟨b, off + k, none⟩) hb).trans (hc k h)
  by_cases hlt : k < len
  ·obtain ⟨fn, tmps, assign, body, hy, hR⟩ := hY _ (zs[k]?.getD 0) wr hJs (by rw [upto_length]; exact hlt)
   have hcx' := hcx hlt
   gi_wp2
   refine hR.mono ?_
   rintro e W3 (⟨rfl, hJ3, hk3⟩ | ⟨rfl, hJx3⟩)
   ·gi_wp2
    go_roundw
    case rel => exact ⟨k + 1, by omega, by simp, by rw [upto_succ]; exact hJ3, hnx.trans hk3⟩
    case measure => simp [intOf]; omega
   ·gi_wp2
    refine bodyPost_ret (results_none rfl _ _ _) rfl ?_
    exact ⟨⟨_, rfl⟩, .inr ⟨_, ⟨k + 1, by omega, (upto_succ _ _).symm⟩, hJx3⟩⟩
  ·obtain rfl : k = len := by omega
   gi_wp2
   go_end0
   exact ⟨⟨_, rfl⟩, .inl ⟨_, rfl, hJs⟩⟩
theorem upto_take (zs : List Int) {k : Nat} (hk : k ≤ zs.length) : upto (fun j => zs[j]?.getD 0) k = zs.take k := by
 apply List.ext_getElem
 ·simp [upto, hk]
 ·intro i h1 h2
  have : i < zs.length := by simp [upto] at h1; omega
  simp [upto, this]
def Ints (n₀ : Nat) (W : World) (sv : Value) (zs : List Int) : Prop :=
 (∃ a cap, sv = .slice a 0 cap ∧ zs = []) ∨ ∃ b off cap, sv = .slice (some ⟨b, off, none⟩) zs.length cap ∧ b < n₀ ∧ ∀ j, j < zs.length → W.cell? ⟨b, off + j, none⟩ = some (.int .i64 (zs[j]?.getD 0))
theorem Ints.below {n₀ : Nat} {A B : World} (h : Below n₀ A B) {sv : Value} {zs : List Int} : Ints n₀ A sv zs → Ints n₀ B sv zs
 | .inl e => .inl e
 | .inr ⟨b, off, cap, e, hb, hc⟩ => .inr ⟨b, off, cap, e, hb, fun j hj => (h.cell (p := ⟨b, off + j, none⟩) hb).trans (hc j hj)⟩
set_option maxRecDepth 100000 in
set_option maxHeartbeats 1000000 in
theorem valuesA_nil_in (F : Fence) (n : Nat) (h7 : F.fn 71) (hro : F.round = none) (l Bs : Nat) (a : Option Addr) (cap : Nat) (J : List Int → World → Prop) (W : World) (hBs : W.cell? ⟨Bs, 0, none⟩ = some (.slice a 0 cap)) (h0 : J [] W) :
  CallsIn F n Try.prog 71 #[.func (.yield l) #[] #[], .pointer (some ⟨Bs, 0, none⟩)] W fun e W' => (∃ v, e = .returned v) ∧ J [] W' := by
 refine callsIn_of_wp Try.func71 rfl h7 ?_ hro
 simp only [Try.ntmps71, List.size_toArray, List.length_cons, List.length_nil, Nat.reduceAdd, Nat.reduceSub, Array.replicate_succ, Array.replicate_zero, List.push_toArray, List.append_toArray, List.nil_append, List.cons_append]
 gi_wp2
 gi_loopw [7] (fun i wr => i = .int .i64 0 ∧ J [] wr) (fun _ _ => 0)
 case atStart => exact ⟨rfl, h0⟩
 case round =>
  obtain ⟨rfl, hJs⟩ := hrel
  gi_wp2
  go_end0
  exact ⟨⟨_, rfl⟩, hJs⟩
set_option maxHeartbeats 1000000 in
theorem values_in (F : Fence) (n : Nat) (h5 : F.fn 64) (hro : F.round = none) (a : Option Addr) (len cap : Nat) (w : World) :
  CallsIn F n Try.prog 64 #[.slice a len cap] w fun e w' => e = .returned (.func (.func 71) #[] #[.pointer (some ⟨w.heap.size, 0, none⟩)]) ∧ w' = w.alloc (.cells #[.slice a len cap] 22) := by
 refine callsIn_of_wp Try.func64 rfl h5 ?_ hro
 simp only [Try.ntmps64, List.size_toArray, List.length_cons, List.length_nil, Nat.reduceAdd, Nat.reduceSub, Array.replicate_succ, Array.replicate_zero, List.push_toArray, List.append_toArray, List.nil_append, List.cons_append]
 gi_wp2
 go_ret
 exact ⟨rfl, rfl⟩
theorem values_stops (F : Fence) (n : Nat) (h7 : F.fn 71) (hro : F.round = none) (hn : 1 ≤ n) (Bs n₀ : Nat) (sv : Value) (zs : List Int) (hreach : zs.length * 8 ≤ 140737488351232) (w : World) (hBs : Bs < w.heap.size) (hn₀ : n₀ ≤ w.heap.size)
  (hc : w.cell? ⟨Bs, 0, none⟩ = some sv) (hI : Ints n₀ w sv zs) :
  SeqStopsK F n Try.prog 71 #[.pointer (some ⟨Bs, 0, none⟩)] (fun x : Int => #[Value.int .i64 x]) (Below n₀) (fun ys => ys = zs) (fun pre => pre <+: zs) zs.length w := fun l J Jx W hW _ _ hY h0 => by
 have hc' := (hW.cell (p := ⟨Bs, 0, none⟩) hBs).trans hc
 rcases hI.below (hW.mono hn₀) with ⟨a, cap, rfl, rfl⟩ | ⟨b, off, cap, rfl, hb, hcs⟩
 ·exact (valuesA_nil_in F n h7 hro l Bs a cap J W hc' h0).mono fun e W' ⟨he, hj⟩ => ⟨he, .inl ⟨_, rfl, hj⟩⟩
 ·refine (valuesA_in F n h7 hro hn l Bs n₀ b off zs.length cap zs hreach hb J Jx hY W hc' hcs h0).mono ?_
  rintro e W' ⟨he, ⟨ys, rfl, hj⟩ | ⟨pre, ⟨k, hk, rfl⟩, hj⟩⟩
  ·exact ⟨he, .inl ⟨_, upto_all zs, hj⟩⟩
  ·exact ⟨he, .inr ⟨_, by rw [upto_take zs hk]; exact List.take_prefix _ _, hj⟩⟩
theorem info3 : (Try.prog.info? 3).map (fun i => (i.zero, i.size, i.bytes)) = some (some (.int .i64 0), 1, 8) := by kernel_rfl
set_option maxRecDepth 100000 in
set_option maxHeartbeats 2000000 in
theorem appendSeq_in (F : Fence) (n : Nat) (h3 : F.fn 74) (h5 : F.fn 71) (hro : F.round = none) (hn : 3 ≤ n) (Bs : Nat) (sv : Value) (zs : List Int) (hreach : zs.length * 8 ≤ 140737488351232) (w : World) (hBs : Bs < w.heap.size)
  (hc : w.cell? ⟨Bs, 0, none⟩ = some sv) (hI : Ints w.heap.size w sv zs) :
  CallsIn F n Try.prog 74 #[.slice none 0 0, .func (.func 71) #[] #[.pointer (some ⟨Bs, 0, none⟩)]] w fun e W' => ∃ v, e = .returned v ∧ W'.ownsRow w.heap.size 3 1 v zs.length (zs.map (Value.int .i64)) ∧ (v = .slice none 0 0 ↔ zs = []) ∧ Below w.heap.size w W' := by
 have h1 : 1 ≤ n := by omega
 obtain ⟨i0, hi, hz0, hz1, hz2⟩ := info_parts info3
 refine callsIn_of_wp_marks Try.func74 rfl h3 ?_ hro
 simp only [Try.ntmps74, List.size_toArray, List.length_cons, List.length_nil, Nat.reduceAdd, Nat.reduceSub, Array.replicate_succ, Array.replicate_zero, List.push_toArray, List.append_toArray, List.nil_append, List.cons_append]
 gi_wp2
 have bO := Boxed.new w 22 (.slice none 0 0)
 have hB0 : Below w.heap.size w (w.alloc (.cells #[.slice none 0 0] 22)) := (Below.refl _ w).alloc (Nat.le_refl _) _
 refine wpIn_rangeFunc_ownG hro h1 (gf := 71) (lb := #[.pointer (some ⟨Bs, 0, none⟩)]) rfl h5 (enters_of Try.func71 (by kernel_rfl) rfl)
  (values_stops F (n - 1) h5 hro (by omega) Bs w.heap.size sv zs hreach _ (by simp; omega) (by simp) ((hB0.cell (p := ⟨Bs, 0, none⟩) hBs).trans hc) (hI.below hB0)) belowK_t (belowK_b (by simp)) (Below.refl _ _) (fun _ => rfl)
  (fun pre W => (∃ v, Boxed W w.heap.size 22 v ∧ W.ownsRow w.heap.size 3 1 v pre.length (pre.map (Value.int .i64)) ∧ (v = .slice none 0 0 ↔ pre = [])) ∧ Below w.heap.size w W)
  (fun _ _ _ => False)
  (OwnFrom.and (Own.from (holdsRow_own w.heap.size w.heap.size 22 3 1 (fun pre => pre.length) (fun pre => pre.map (Value.int .i64)) (fun pre v => v = .slice none 0 0 ↔ pre = [])) _) (ownFrom_below (Nat.le_refl _) (by simp)))
  (fun _ _ _ _ _ hs _ _ => hs)
  ⟨⟨_, bO, World.ownsRow_nil _ _ _ _, by simp⟩, hB0⟩
  (fun x => { tmps := #[.slice none 0 0, .func (.func 71) #[] #[.pointer (some ⟨Bs, 0, none⟩)], .pointer (some ⟨w.heap.size, 0, none⟩), undef, .slice none 0 0, .int .i64 x, .func (.func 71) #[] #[.pointer (some ⟨Bs, 0, none⟩)], .int .i64 x, undef, undef, undef, undef, undef], defers := [] }) ?assign ?body ?done ?stop
 case assign =>
  intro l x W K hK
  gi_wp2
  exact hK
 case body =>
  rintro l pre x W ⟨⟨v, hv, hrow, hnil⟩, hB⟩ hlt
  have hc := hv.cell
  have hlen : zs.length ≤ maxLen := by simp only [maxLen]; omega
  have hbytes : zs.length * 8 ≤ 140737488355328 := by omega
  gi_wp2_with (gi_at_builtin; refine wpListIn_append_own _ rfl _ _ 22 rfl w.heap.size 3 i0 (.int .i64 0) 1 8 Try.underlying22 hi hz0 hz1 hz2 rfl (by decide) _ _ _ rfl (hrow.alloc _) ⟨W.heap.size, 0, none⟩ 1 1 [.int .i64 x] rfl rfl (cell_one_new _ _ _) (by simp [Value.oneCell']) (by omega) (by omega) (by have := hB.size; simp; omega) ?_; intro v' w1 hown' hgrow _; obtain ⟨g', cap', rfl⟩ := ownsRow_succ hown'; obtain ⟨hv1, hv2, hr2, hk2, hb2⟩ := hv.appended (by decide) hrow hB.size (Nat.le_refl _) hown' hgrow; have hc1 := hv1.cell; have hf1 := hv1.frozen)
  exact ⟨hk2.from _, hb2, ⟨_, hv2, by simpa using hr2, by simp⟩, hB.trans hb2⟩
 case done =>
  rintro D ys W hD rfl ⟨⟨v, hv, hrow, hnil⟩, hB⟩ hK
  have hc := hv.cell
  gi_wp2
  refine ⟨by simp, .inl ⟨_, _, rfl, run_takeDeferred hK, ?_⟩⟩
  exact ⟨_, results_tmp rfl _ _ _, v, rfl, ownsRow_putObj hrow _ hK rfl, hnil, hB.trans (belowK_b (w := w) (Nat.le_refl _) W D _ _ (by simp at hD; omega) hK rfl rfl)⟩
 case stop =>
  rintro D c pre W _ _ h _
  exact h.elim
set_option maxHeartbeats 1000000 in
theorem collect_in (F : Fence) (n : Nat) (h8 : F.fn 69) (h3 : F.fn 74) (h5 : F.fn 71) (hro : F.round = none) (hn : 4 ≤ n) (Bs : Nat) (sv : Value) (zs : List Int) (hreach : zs.length * 8 ≤ 140737488351232) (w : World) (hBs : Bs < w.heap.size)
  (hc : w.cell? ⟨Bs, 0, none⟩ = some sv) (hI : Ints w.heap.size w sv zs) :
  CallsIn F n Try.prog 69 #[.func (.func 71) #[] #[.pointer (some ⟨Bs, 0, none⟩)]] w fun e W' => ∃ v, e = .returned v ∧ W'.ownsRow w.heap.size 3 1 v zs.length (zs.map (Value.int .i64)) ∧ (v = .slice none 0 0 ↔ zs = []) ∧ Below w.heap.size w W' := by
 have h1 : 1 ≤ n := by omega
 refine callsIn_of_wp Try.func69 rfl h8 ?_ hro
 simp only [Try.ntmps69, List.size_toArray, List.length_cons, List.length_nil, Nat.reduceAdd, Nat.reduceSub, Array.replicate_succ, Array.replicate_zero, List.push_toArray, List.append_toArray, List.nil_append, List.cons_append]
 gi_wp2_with (gi_at_call 74; refine (appendSeq_in F (n - 1) h3 h5 hro (by omega) Bs sv zs hreach _ hBs hc hI).mono ?_; rintro e w' ⟨v, rfl, hrow, hnil, hb⟩)
 go_ret
 exact ⟨v, rfl, hrow, hnil, hb⟩
open Go.Fw
theorem rep_of_own {M : Md → Nat → Prop} {w : World} {base : Nat} {v : Value} {zs : List Int} (h : w.ownsRow base 3 1 v zs.length (zs.map (Value.int .i64))) : ∃ f, Rep M w (.osl (.int .i64)) [v] zs f ∧ f.Nodup ∧ ∀ b ∈ f, base ≤ b ∧ b < w.heap.size := by
 rcases h.2 with ⟨rfl, h0⟩ | ⟨g, cap, cur, rfl, hb, hg, h1, h2, h3, h4⟩
 ·obtain rfl := List.eq_nil_of_length_eq_zero h0
  exact ⟨[], ⟨none, 0, rfl, .inl ⟨rfl, rfl, rfl, rfl⟩⟩, by simp, by simp⟩
 ·rw [Nat.mul_one] at h3 h4
  have hcell : ∀ j, j < cap → w.cell? ⟨g, j, none⟩ = some (cur[j]?.getD undef) ∧ w.frozen? ⟨g, j, none⟩ = false := fun j hj => by
   constructor <;> simp [World.cell?, World.frozen?, hg, show j < cur.size by omega]
  refine ⟨[g], ⟨some ⟨g, 0, none⟩, cap, rfl, .inr ⟨g, 0, List.replicate zs.length [], rfl, by simp, by simp, h1, fun j _ hj => ?_, fun i x f hx hf => ?_⟩⟩, by simp, fun b hb' => ?_⟩
  ·obtain ⟨q1, q2⟩ := hcell j (by simpa [Ty.size] using hj)
   exact ⟨by rw [q1]; rfl, q2⟩
  ·have hi : i < zs.length := (List.getElem?_eq_some_iff.1 hx).1
   obtain rfl : f = [] := by
    rw [List.getElem?_replicate] at hf
    split at hf <;> simp_all
   refine ⟨[.int .i64 x], rfl, fun j v hj => ?_, rfl, rfl⟩
   cases j with
   | succ j => simp at hj
   | zero =>
     simp only [List.getElem?_cons_zero, Option.some.injEq] at hj
     subst hj
     simp only [Ty.size, Nat.mul_one, Nat.zero_add, Nat.add_zero]
     rw [(hcell i (by omega)).1]
     have : (cur.toList.take zs.length)[i]? = (zs.map (Value.int .i64))[i]? := by rw [h4]
     rw [List.getElem?_take_of_lt hi, Array.getElem?_toList, List.getElem?_map, hx] at this
     rw [this]; rfl
  ·simp only [List.mem_singleton] at hb'
   subst hb'
   exact ⟨hb, (Array.getElem?_eq_some_iff.1 hg).1⟩
theorem holds_of_rep {M : Md → Nat → Prop} {w : World} {v : Value} {zs : List Int} {f : List Nat} (h : Rep M w (.osl (.int .i64)) [v] zs f) :
  (∃ a cap, v = .slice a 0 cap ∧ zs = []) ∨ ∃ b o cap, v = .slice (some ⟨b, o, none⟩) zs.length cap ∧ zs.length ≤ cap ∧ Holds (Value.int .i64) w b o zs.toArray ∧ f = [b] := by
 obtain ⟨a, cap, hv, h⟩ := h
 simp only [List.cons.injEq, and_true] at hv
 subst hv
 rcases h with ⟨rfl, rfl, rfl, rfl⟩ | ⟨b, o, fps, rfl, rfl, h1, h2, h3, h4⟩
 ·exact .inl ⟨none, 0, rfl, rfl⟩
 ·right
  have hfp : fps.flatten = [] := by
   rw [List.flatten_eq_nil_iff]
   intro l hl
   obtain ⟨i, hi, rfl⟩ := List.mem_iff_getElem.1 hl
   obtain ⟨ds, _, _, hr⟩ := h4 i (zs[i]'(by omega)) fps[i] (by simp) (by simp)
   exact hr.1
  refine ⟨b, o, cap, rfl, h2, fun j hj => ?_, by rw [hfp]⟩
  have hj' : j < zs.length := by simpa using hj
  obtain ⟨ds, d1, d2, _, d3⟩ := h4 j zs[j] (fps[j]'(by omega)) (by simp) (by simp)
  subst d3
  have q1 := d2 0 _ rfl
  simp only [Ty.size, Nat.mul_one, Nat.add_zero] at q1
  exact ⟨by rw [q1]; simp [hj'], (h3 (o + j) (by omega) (by simp only [Ty.size]; omega)).2⟩
def SortOk (E : Env) (sort : List Int → Option (List Int)) : Prop := ∀ zs ys, sort zs = some ys → CallOk E 70 [.m ⟨.osl (.int .i64), zs⟩ ys] []
set_option maxRecDepth 100000 in
set_option maxHeartbeats 2000000 in
theorem sorted_in (F : Fence) (hall : ∀ f, F.fn f) (hro : F.round = none) (hcv : ∀ (m : Nat) (f : FuncId) (args : Array Value) (w : World) (R : Ending → World → Prop), Calls Try.prog f args w R → CallsIn F m Try.prog f args w R) {E : Env} (hE : E.P = Try.prog) {sort : List Int → Option (List Int)} (hs : SortOk E sort) (n : Nat) (hn : 5 ≤ n) (Bs : Nat) (sv : Value) (zs ys : List Int) (hys : sort zs = some ys) (hreach : zs.length * 8 ≤ 140737488351232) (w : World) (hBs : Bs < w.heap.size)
  (hc : w.cell? ⟨Bs, 0, none⟩ = some sv) (hI : Ints w.heap.size w sv zs) :
  CallsIn F n Try.prog 63 #[.func (.func 71) #[] #[.pointer (some ⟨Bs, 0, none⟩)]] w fun e W' => ∃ v f M, e = .returned v ∧ Rep M W' (.osl (.int .i64)) [v] ys f ∧ (∀ b ∈ f, w.heap.size ≤ b) ∧ Below w.heap.size w W' := by
 have h1 : 1 ≤ n := by omega
 have hq1 := hall 69
 have hq2 := hall 70
 refine callsIn_of_wp Try.func63 rfl (hall _) ?_ hro
 simp only [Try.ntmps63, List.size_toArray, List.length_cons, List.length_nil, Nat.reduceAdd, Nat.reduceSub, Array.replicate_succ, Array.replicate_zero, List.push_toArray, List.append_toArray, List.nil_append, List.cons_append]
 gi_wp2_with (first
  | (gi_at_call 69; refine (collect_in F (n - 1) (hall _) (hall _) (hall _) hro (by omega) Bs sv zs hreach _ hBs hc hI).mono ?_; rintro e W ⟨v, rfl, hrow, hnil, hb⟩
     obtain ⟨f, hr, hnd, hf⟩ := rep_of_own (M := md (fun _ => False) (fun _ => False)) hrow
     have hcall := hs zs ys hys W (fun _ => False) (fun _ => False) [v] [f] (fun b h => by rcases h with h | h <;> exact h.elim) ⟨⟨[v], rfl, hr⟩, trivial⟩ (by simpa using hnd) (fun b hb => ⟨fun h => h, fun h => h, (hf b (by simpa using hb)).2⟩) True.intro
     rw [hE] at hcall
     have hcall := hcv (n - 1) _ _ _ _ hcall
     clear hrow hnil)
  | (gi_at_call 70; refine hcall.mono ?_; rintro e W2 ⟨I', gs, hs2, rv, rfl, hp⟩))
 have hg : ∃ g, gs = [g] := by
  have := hp.args
  match gs, this with
  | [g], _ => exact ⟨g, rfl⟩
  | [], h => exact h.elim
  | _ :: _ :: _, h => exact h.2.elim
 obtain ⟨g, rfl⟩ := hg
 obtain ⟨cs, e1, hr2⟩ := hp.args.1
 have hl2 := hr2.len
 obtain ⟨c, rfl⟩ := List.length_eq_one_iff.1 hl2
 have e1 : v = c := e1
 subst e1
 have hrv : rv = [] := by
  have := hp.res
  match rv, this with
  | [], _ => rfl
  | _ :: _, h => exact h.elim
 subst hrv
 go_ret
 refine ⟨v, g, _, rfl, hr2, fun b hb' => ?_, ?_⟩
 ·have := (hp.bl b (by simp [hb'])).2.2.2
  rcases this with h | h
  ·exact Nat.le_trans hb.size h
  ·exact (hf b (by simpa using h)).1
 ·exact ⟨hp.os.trans hb.os, hp.tape.trans hb.tape, hp.output.trans hb.output, Nat.le_trans hb.size hp.size, fun k hk => (hp.heap k (Nat.lt_of_lt_of_le hk hb.size) (fun h => by have := (hf k (by simpa using h)).1; omega)).trans (hb.block k hk)⟩
theorem compact_of_rep {M : Md → Nat → Prop} {W : World} {B : Nat} {v : Value} {ys : List Int} {f : List Nat} (hr : Rep M W (.osl (.int .i64)) [v] ys f) (hf : ∀ b ∈ f, B ≤ b) (hl : ys.length ≤ 1000000) :
  Calls Try.prog 62 #[v] W (fun e w' => ∃ a cap, e = .returned (.slice a (Lib.compact ys).length cap) ∧ Below B W w') := by
 rcases holds_of_rep hr with ⟨a, cap, rfl, rfl⟩ | ⟨b, o, cap, rfl, hcap, hH, rfl⟩
 ·refine (Any.slices_Compact_int_empty Try.laysCompact a cap W).mono ?_
  rintro e w' ⟨rfl, rfl⟩
  exact ⟨a, cap, rfl, Below.refl _ _⟩
 ·refine (Any.slices_Compact_int Try.laysCompact b o cap ys W hH (by omega) hcap).mono ?_
  rintro e w' ⟨rfl, q, rfl⟩
  refine ⟨_, cap, rfl, rfl, rfl, rfl, by simp [putRow, mapBlock, Sort.ahead], fun k hk => ?_⟩
  have := hf b (by simp)
  simp [putRow, mapBlock, Sort.ahead, Array.getElem?_modify, show b ≠ k by omega]
set_option maxRecDepth 100000 in
set_option maxHeartbeats 2000000 in
theorem twice_in (F : Fence) (hall : ∀ f, F.fn f) (hro : F.round = none) (hcv : ∀ (m : Nat) (f : FuncId) (args : Array Value) (w : World) (R : Ending → World → Prop), Calls Try.prog f args w R → CallsIn F m Try.prog f args w R) {E : Env}
  (hE : E.P = Try.prog) {sort : List Int → Option (List Int)} (hs : SortOk E sort) (n : Nat) (hn : 7 ≤ n) (a : Option Addr) (len cap : Nat) (zs ys : List Int) (hys : sort zs = some ys) (hlen : zs.length = len) (hreach : zs.length ≤ 1000000) (hy : ys.length ≤ 1000000) (w : World) (hI : Ints w.heap.size w (.slice a len cap) zs) :
  CallsIn F n Try.prog 53 #[.slice a len cap] w fun e W' => e = .returned (.bool (decide ((Lib.compact ys).length < zs.length))) ∧ Below w.heap.size w W' := by
 have h1 : 1 ≤ n := by omega
 have hq1 := hall 64
 have hq2 := hall 63
 have hq3 := hall 62
 generalize hcl : (Lib.compact ys).length = cl
 refine callsIn_of_wp Try.func53 rfl (hall _) ?_ hro
 simp only [Try.ntmps53, List.size_toArray, List.length_cons, List.length_nil, Nat.reduceAdd, Nat.reduceSub, Array.replicate_succ, Array.replicate_zero, List.push_toArray, List.append_toArray, List.nil_append, List.cons_append]
 have bO := Boxed.new w 22 (.slice a len cap)
 have hB0 : Below w.heap.size w (w.alloc (.cells #[.slice a len cap] 22)) := (Below.refl _ w).alloc (Nat.le_refl _) _
 have hI0 : Ints (w.alloc (.cells #[.slice a len cap] 22)).heap.size (w.alloc (.cells #[.slice a len cap] 22)) (.slice a len cap) zs := by
  rcases hI.below hB0 with h | ⟨b, off, cap', e, hb, hc⟩
  ·exact .inl h
  ·exact .inr ⟨b, off, cap', e, by simp; omega, hc⟩
 have hsorted := sorted_in F hall hro hcv hE hs (n - 1) (by omega) w.heap.size (.slice a len cap) zs ys hys (by omega) _ (by simp) bO.cell hI0
 gi_wp2_with (first
  | (gi_at_call 64; refine (values_in F (n - 1) (hall _) hro a len cap w).mono ?_; rintro e w' ⟨rfl, rfl⟩)
  | (gi_at_call 63; refine hsorted.mono ?_; rintro e W ⟨v, f, M, rfl, hr, hf, hb⟩; have hcomp := hcv (n - 1) _ _ _ _ (compact_of_rep (B := w.heap.size) hr (fun b hb' => by have := hf b hb'; simp at this; omega) hy); rw [hcl] at hcomp; have X : Below w.heap.size w W := hB0.trans (hb.mono (by simp)); clear hr hf hb hsorted)
  | (gi_at_call 62; refine hcomp.mono ?_; rintro e W2 ⟨a2, cap2, rfl, hb2⟩))
 go_ret
 exact ⟨by rw [hlen]; rfl, X.trans hb2⟩
noncomputable def twFun (sort : List Int → Option (List Int)) : Fun := ⟨53, [.v (.slc .bor (.int .i64))], [.bool], fun a => (twSem sort a.1).map fun b => (b, ())⟩
theorem tw_ok {E : Env} (hE : E.P = Try.prog) {sort : List Int → Option (List Int)} (hs : SortOk E sort) : OkFun E (twFun sort) := by
 refine ⟨fun vs w => by rw [hE]; exact Try.call53 vs w, ?_⟩
 rintro ⟨zs, _⟩ b hb
 have hb2 : (twSem sort zs).map (fun b => (b, ())) = some b := hb
 obtain ⟨b0, hb0, rfl⟩ := Option.map_eq_some_iff.1 hb2
 clear hb hb2
 unfold twSem at hb0
 cases h1 : Nat.ble zs.length 1000000 with
 | false => rw [h1] at hb0; cases hb0
 | true =>
 rw [h1] at hb0
 obtain ⟨ys, hys, hb0⟩ := Option.bind_eq_some_iff.1 hb0
 cases h2 : Nat.ble ys.length 1000000 with
 | false => rw [h2] at hb0; cases hb0
 | true =>
 rw [h2] at hb0
 have hb : decide ((Lib.compact ys).length < zs.length) = b0 := Option.some.inj hb0
 subst hb
 have h1 := Nat.le_of_ble_eq_true h1
 have h2 := Nat.le_of_ble_eq_true h2
 rintro w I B vs fs hIB hargs hnd hfs _hself
 have hargs : all3 (ArgH I B w) [.v ⟨.slc .bor (.int .i64), zs⟩] vs fs := hargs
 obtain ⟨v, f, rfl, rfl⟩ : ∃ v f, vs = [v] ∧ fs = [f] := by
  cases vs with
  | nil => exact hargs.elim
  | cons v vs =>
    cases fs with
    | nil => exact hargs.elim
    | cons f fs =>
      have h := hargs.2
      cases vs with
      | nil => cases fs with
        | nil => exact ⟨v, f, rfl, rfl⟩
        | cons => exact h.elim
      | cons => exact h.elim
 obtain ⟨⟨rfl, cs, rfl, hr⟩, _⟩ := hargs
 obtain ⟨_, a, cap, rfl, hcap, hnil, hel⟩ := hr
 have hI : Ints w.heap.size w (.slice a zs.length cap) zs := by
  rcases hel with h | ⟨b, o, rfl, hM, hx⟩
  ·exact .inl ⟨a, cap, by rw [show zs = [] from h]; rfl, h⟩
  ·refine .inr ⟨b, o, cap, rfl, hIB b hM, fun j hj => ?_⟩
   obtain ⟨ds, d1, d2, _, d3⟩ := hx j zs[j] (by simp [hj])
   subst d3
   have q := d2 0 _ rfl
   simp only [Ty.size, Nat.mul_one, Nat.add_zero] at q
   rw [q]; simp [hj]
 have h := twice_in Fence.wide (fun _ => trivial) rfl (fun m f args w R h => (callsIn_wide (n := m)).2 h) hE hs 10 (by omega) a zs.length cap zs ys hys rfl h1 h2 w hI
 have h := callsIn_wide.1 h
 show Calls E.P 53 #[.slice a zs.length cap] w _
 rw [hE]
 refine h.mono ?_
 rintro e w' ⟨rfl, hb⟩
 refine ⟨I, [[]], [[]], [.bool _], rfl, ⟨⟨rfl, trivial⟩, ⟨⟨[.bool _], rfl, rfl, rfl⟩, trivial⟩, by simp, by simp, fun _ h => h, fun _ h => .inl h, hb.size, hb.os, hb.tape, hb.output, fun b hb' => .of_heap (hb.block b hb'), fun b hb' _ => hb.block b hb'⟩⟩
end Tw
end Go.Proofs
end