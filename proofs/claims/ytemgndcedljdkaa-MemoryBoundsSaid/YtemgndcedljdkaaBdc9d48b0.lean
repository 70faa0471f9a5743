/-
  Parts of the proof: Ev22, Pl60, Pl61, Pl62, Pl63, Pl64, Pl65, Pl67, Pl68, Pl69, Pl70, Pl72: the framework (Fw), pure forms (Dn), plain laws (Pl, Th), calls of functions (Ok).
-/
import Derived.Test.YtemgndcedljdkaaB4944be1c

set_option linter.all false
section
namespace Go.Fw
noncomputable def e_memory_proper (n_ : Nat) : ((List (Int × (Int × ((List Int) × (Int × Unit))))) × Unit) → Option (Bool × Unit) := fun (l_1, _) =>
  (bif (decide ((((l_1).length : Nat) : Int) > ((200) : Int))) then (
  some (false, ())) else (
  (loopN (σ := (Int × Unit)) (ρ := (Unit ⊕ (Bool × Unit))) (fun (s_4, _) =>
  (bif (decide (s_4 < (((l_1).length : Nat) : Int))) then (
  Option.bind (α := Unit ⊕ ((Int × Unit) ⊕ (Unit ⊕ (Bool × Unit)))) (
  (getI l_1 s_4).bind fun y5 =>
  Option.bind (α := ((Int × (Int × ((List Int) × (Int × Unit)))) × Unit) ⊕ (Unit ⊕ ((Int × Unit) ⊕ (Unit ⊕ (Bool × Unit))))) (
  (bif ((decide ((((y5.2.2.1).length : Nat) : Int) > ((200) : Int))) == false) then ((bif ((decide (y5.2.1 ≤ y5.1)) == false) then ((bif ((decide ((IntKind.i64.wrap (y5.2.1 - y5.1)) < ((1) : Int))) == false) then ((bif (decide ((IntKind.i64.wrap (y5.2.1 - y5.1)) > (((y5.2.2.1).length : Nat) : Int))) then (
  some (.inr (.inr (.inr (.inr (false, ())))))) else (
  some (.inl (y5, ()))))) else (some (.inr (.inr (.inr (.inr (false, ())))))))) else (some (.inr (.inr (.inr (.inr (false, ())))))))) else (some (.inr (.inr (.inr (.inr (false, ())))))))) fun q => match q with
  | .inl (f_6, _) => (
  (bif ((f_6.2.2.2.1 != (-1 : Int)) == true) then ((bif ((decide (f_6.2.2.2.1 ≤ s_4)) == false) then ((bif (decide (f_6.2.2.2.1 ≥ (((l_1).length : Nat) : Int))) then (
  some (.inr (.inr (.inr (false, ()))))) else (
  some (.inl ())))) else (some (.inr (.inr (.inr (false, ()))))))) else (some (.inl ()))))
  | .inr r => some r) fun q => match q with
  | .inl _ => (
  some (.inl ((IntKind.i64.wrap (s_4 + ((1) : Int))), ())))
  | .inr r => some r) else (
  some (.inr (.inl ()))))) n_ (((0) : Int), ())).bind fun q => match q with
  | .inl _ => (
  some (true, ()))
  | .inr r => some r))
set_option maxHeartbeats 4000000 in
theorem le_memory_proper (n_ : Nat) (a : ((List (Int × (Int × ((List Int) × (Int × Unit))))) × Unit)) : Le (e_memory_proper n_ a) (d_memory_proper a) := by
  unfold e_memory_proper d_memory_proper
  repeat' (first | with_reducible exact Le.refl _  | (with_reducible refine Le.bind ?_ (fun y => ?_)) | (with_reducible refine Le.bif ?_ ?_) | (with_reducible refine Le.loop (fun s => ?_) _ _) | (with_reducible refine Le.atO (fun e => ?_)) | split)
noncomputable def e_memory_triangle (n_ : Nat) : (Int × Unit) → Option (Int × Unit) := fun (n_1, _) =>
  (quoO IntKind.i64 (IntKind.i64.wrap (n_1 * (IntKind.i64.wrap (n_1 + ((1) : Int))))) ((2) : Int)).bind fun y2 =>
  some (y2, ())
set_option maxHeartbeats 4000000 in
theorem le_memory_triangle (n_ : Nat) (a : (Int × Unit)) : Le (e_memory_triangle n_ a) (d_memory_triangle a) := by
  unfold e_memory_triangle d_memory_triangle
  repeat' (first | with_reducible exact Le.refl _  | (with_reducible refine Le.bind ?_ (fun y => ?_)) | (with_reducible refine Le.bif ?_ ?_) | (with_reducible refine Le.loop (fun s => ?_) _ _) | (with_reducible refine Le.atO (fun e => ?_)) | split)
noncomputable def e_memory_sizes (n_ : Nat) : ((List (Int × (Int × ((List Int) × (Int × Unit))))) × Unit) → Option ((List Int) × (List Int) × Unit) := fun (l_1, _) =>
  (loopN (σ := (Int × (List Int) × (List Int) × Unit)) (ρ := ((List Int) × (List Int) × Unit)) (fun (s_6, front_7, keep_8, _) =>
  (bif (decide (s_6 < (((l_1).length : Nat) : Int))) then (
  (getI l_1 s_6).bind fun y9 =>
  (e_memory_triangle n_ ((((y9.2.2.1).length : Nat) : Int), ())).bind fun (r10, _) =>
  (limO ((front_7).length + ([r10]).length)).bind fun _ =>
  (e_memory_triangle n_ ((IntKind.i64.wrap ((((y9.2.2.1).length : Nat) : Int) - (IntKind.i64.wrap (y9.2.1 - y9.1)))), ())).bind fun (r11, _) =>
  (limO ((keep_8).length + ([r11]).length)).bind fun _ =>
  some (.inl ((IntKind.i64.wrap (s_6 + ((1) : Int))), (front_7 ++ [r10]), (keep_8 ++ [r11]), ()))) else (
  some (.inr (front_7, keep_8, ()))))) n_ (((0) : Int), [], [], ())).bind fun (front_12, keep_13, _) =>
  some (front_12, keep_13, ())
set_option maxHeartbeats 4000000 in
theorem le_memory_sizes (n_ : Nat) (a : ((List (Int × (Int × ((List Int) × (Int × Unit))))) × Unit)) : Le (e_memory_sizes n_ a) (d_memory_sizes a) := by
  unfold e_memory_sizes d_memory_sizes
  repeat' (first | with_reducible exact Le.refl _ | with_reducible exact le_memory_triangle _ _ | (with_reducible refine Le.bind ?_ (fun y => ?_)) | (with_reducible refine Le.bif ?_ ?_) | (with_reducible refine Le.loop (fun s => ?_) _ _) | (with_reducible refine Le.atO (fun e => ?_)) | split)
noncomputable def e_memory_children (n_ : Nat) : ((List (Int × (Int × ((List Int) × (Int × Unit))))) × Unit) → Option ((List (List Int)) × (List Int) × Unit) := fun (l_1, _) =>
  (madeO (((l_1).length : Nat) : Int) (((l_1).length : Nat) : Int)).bind fun n8 =>
  (loopN (σ := (Int × (List (List Int)) × (List Int) × Unit)) (ρ := ((List (List Int)) × (List Int) × Unit)) (fun (s_9, kids_10, roots_11, _) =>
  (bif (decide (s_9 < (((l_1).length : Nat) : Int))) then (
  Option.bind (α := ((List (List Int)) × (List Int) × Unit)) (
  (getI l_1 s_9).bind fun y12 =>
  (bif (decide (y12.2.2.2.1 < ((0) : Int))) then (
  (limO ((roots_11).length + ([s_9]).length)).bind fun _ =>
  some (kids_10, (roots_11 ++ [s_9]), ())) else (
  (idxN (kids_10).length y12.2.2.2.1).bind fun k13 =>
  ((atO kids_10 k13 fun e15 => some e15)).bind fun xs16 =>
  (limO ((xs16).length + ([s_9]).length)).bind fun _ =>
  (idxN (kids_10).length y12.2.2.2.1).bind fun k17 =>
  (bif (Nat.beq k13 k17 && true) then (
  ((atO kids_10 k17 fun e18 => some e18)).bind fun xs19 =>
  ((atO kids_10 k17 fun _ => some ((kids_10).set k17 (xs19 ++ [s_9])))).bind fun z21 =>
  some (z21, roots_11, ())) else none)))) fun (kids_22, roots_23, _) =>
  some (.inl ((IntKind.i64.wrap (s_9 + ((1) : Int))), kids_22, roots_23, ()))) else (
  some (.inr (kids_10, roots_11, ()))))) n_ (((0) : Int), (List.replicate n8 []), [], ())).bind fun (kids_24, roots_25, _) =>
  some (kids_24, roots_25, ())
set_option maxHeartbeats 4000000 in
theorem le_memory_children (n_ : Nat) (a : ((List (Int × (Int × ((List Int) × (Int × Unit))))) × Unit)) : Le (e_memory_children n_ a) (d_memory_children a) := by
  unfold e_memory_children d_memory_children
  repeat' (first | with_reducible exact Le.refl _  | (with_reducible refine Le.bind ?_ (fun y => ?_)) | (with_reducible refine Le.bif ?_ ?_) | (with_reducible refine Le.loop (fun s => ?_) _ _) | (with_reducible refine Le.atO (fun e => ?_)) | split)
noncomputable def e_cmp_Compare_int (n_ : Nat) : (Int × Int × Unit) → Option (Int × Unit) := fun (x_1, y_2, _) =>
  (e_cmp_isNaN_int n_ (x_1, ())).bind fun (r3, _) =>
  (e_cmp_isNaN_int n_ (y_2, ())).bind fun (r4, _) =>
  (bif r3 then (
  (bif r4 then (
  some (((0) : Int), ())) else (
  some ((-1 : Int), ())))) else (
  (bif r4 then (
  some (((1) : Int), ())) else (
  (bif (decide (x_1 < y_2)) then (
  some ((-1 : Int), ())) else (
  (bif (decide (x_1 > y_2)) then (
  some (((1) : Int), ())) else (
  some (((0) : Int), ())))))))))
set_option maxHeartbeats 4000000 in
theorem le_cmp_Compare_int (n_ : Nat) (a : (Int × Int × Unit)) : Le (e_cmp_Compare_int n_ a) (d_cmp_Compare_int a) := by
  unfold e_cmp_Compare_int d_cmp_Compare_int
  repeat' (first | with_reducible exact Le.refl _ | with_reducible exact le_cmp_isNaN_int _ _ | (with_reducible refine Le.bind ?_ (fun y => ?_)) | (with_reducible refine Le.bif ?_ ?_) | (with_reducible refine Le.loop (fun s => ?_) _ _) | (with_reducible refine Le.atO (fun e => ?_)) | split)
noncomputable def e_cmp_Or_int (n_ : Nat) : ((List Int) × Unit) → Option (Int × Unit) := fun (vals_1, _) =>
  (loopN (σ := (Int × Unit)) (ρ := (Unit ⊕ (Int × Unit))) (fun (s_2, _) =>
  (bif (decide (s_2 < (((vals_1).length : Nat) : Int))) then (
  (getI vals_1 s_2).bind fun y3 =>
  (bif (y3 != ((0) : Int)) then (
  some (.inr (.inr (y3, ())))) else (
  some (.inl ((IntKind.i64.wrap (s_2 + ((1) : Int))), ()))))) else (
  some (.inr (.inl ()))))) n_ (((0) : Int), ())).bind fun q => match q with
  | .inl _ => (
  some (((0) : Int), ()))
  | .inr r => some r
set_option maxHeartbeats 4000000 in
theorem le_cmp_Or_int (n_ : Nat) (a : ((List Int) × Unit)) : Le (e_cmp_Or_int n_ a) (d_cmp_Or_int a) := by
  unfold e_cmp_Or_int d_cmp_Or_int
  repeat' (first | with_reducible exact Le.refl _  | (with_reducible refine Le.bind ?_ (fun y => ?_)) | (with_reducible refine Le.bif ?_ ?_) | (with_reducible refine Le.loop (fun s => ?_) _ _) | (with_reducible refine Le.atO (fun e => ?_)) | split)
noncomputable def e_math_bits_Len64 (n_ : Nat) : (Int × Unit) → Option (Int × Unit) := fun (x_1, _) =>
  Option.bind (α := (Int × Int × Unit)) (
  (bif (decide (x_1 ≥ ((4294967296) : Int))) then (
  (shrO IntKind.u64 x_1 ((32) : Int)).bind fun y2 =>
  some (y2, ((32) : Int), ())) else (
  some (x_1, ((0) : Int), ())))) fun (x_3, n_4, _) =>
  Option.bind (α := (Int × Int × Unit)) (
  (bif (decide (x_3 ≥ ((65536) : Int))) then (
  (shrO IntKind.u64 x_3 ((16) : Int)).bind fun y5 =>
  some (y5, (IntKind.i64.wrap (n_4 + ((16) : Int))), ())) else (
  some (x_3, n_4, ())))) fun (x_6, n_7, _) =>
  Option.bind (α := (Int × Int × Unit)) (
  (bif (decide (x_6 ≥ ((256) : Int))) then (
  (shrO IntKind.u64 x_6 ((8) : Int)).bind fun y8 =>
  some (y8, (IntKind.i64.wrap (n_7 + ((8) : Int))), ())) else (
  some (x_6, n_7, ())))) fun (x_9, n_10, _) =>
  (strI lenTab (IntKind.u8.wrap x_9)).bind fun c11 =>
  some ((IntKind.i64.wrap (n_10 + (IntKind.i64.wrap c11))), ())
set_option maxHeartbeats 4000000 in
theorem le_math_bits_Len64 (n_ : Nat) (a : (Int × Unit)) : Le (e_math_bits_Len64 n_ a) (d_math_bits_Len64 a) := by
  unfold e_math_bits_Len64 d_math_bits_Len64
  repeat' (first | with_reducible exact Le.refl _  | (with_reducible refine Le.bind ?_ (fun y => ?_)) | (with_reducible refine Le.bif ?_ ?_) | (with_reducible refine Le.loop (fun s => ?_) _ _) | (with_reducible refine Le.atO (fun e => ?_)) | split)
noncomputable def e_math_bits_Len (n_ : Nat) : (Int × Unit) → Option (Int × Unit) := fun (x_1, _) =>
  (e_math_bits_Len64 n_ (x_1, ())).bind fun (r2, _) =>
  some (r2, ())
set_option maxHeartbeats 4000000 in
theorem le_math_bits_Len (n_ : Nat) (a : (Int × Unit)) : Le (e_math_bits_Len n_ a) (d_math_bits_Len a) := by
  unfold e_math_bits_Len d_math_bits_Len
  repeat' (first | with_reducible exact Le.refl _ | with_reducible exact le_math_bits_Len64 _ _ | (with_reducible refine Le.bind ?_ (fun y => ?_)) | (with_reducible refine Le.bif ?_ ?_) | (with_reducible refine Le.loop (fun s => ?_) _ _) | (with_reducible refine Le.atO (fun e => ?_)) | split)
noncomputable def e_slices_nextPowerOfTwo (n_ : Nat) : (Int × Unit) → Option (Int × Unit) := fun (length_1, _) =>
  (e_math_bits_Len n_ ((IntKind.u64.wrap length_1), ())).bind fun (r2, _) =>
  (shlO IntKind.u64 ((1) : Int) r2).bind fun y3 =>
  some (y3, ())
set_option maxHeartbeats 4000000 in
theorem le_slices_nextPowerOfTwo (n_ : Nat) (a : (Int × Unit)) : Le (e_slices_nextPowerOfTwo n_ a) (d_slices_nextPowerOfTwo a) := by
  unfold e_slices_nextPowerOfTwo d_slices_nextPowerOfTwo
  repeat' (first | with_reducible exact Le.refl _ | with_reducible exact le_math_bits_Len _ _ | (with_reducible refine Le.bind ?_ (fun y => ?_)) | (with_reducible refine Le.bif ?_ ?_) | (with_reducible refine Le.loop (fun s => ?_) _ _) | (with_reducible refine Le.atO (fun e => ?_)) | split)
noncomputable def e_slices_xorshift_Next (n_ : Nat) : (Int × Unit) → Option (Int × Int × Unit) := fun (r_1, _) =>
  (shlO IntKind.u64 r_1 ((13) : Int)).bind fun y2 =>
  (shrO IntKind.u64 (xorI IntKind.u64 r_1 y2) ((7) : Int)).bind fun y3 =>
  (shlO IntKind.u64 (xorI IntKind.u64 (xorI IntKind.u64 r_1 y2) y3) ((17) : Int)).bind fun y4 =>
  some ((xorI IntKind.u64 (xorI IntKind.u64 (xorI IntKind.u64 r_1 y2) y3) y4), (xorI IntKind.u64 (xorI IntKind.u64 (xorI IntKind.u64 r_1 y2) y3) y4), ())
set_option maxHeartbeats 4000000 in
theorem le_slices_xorshift_Next (n_ : Nat) (a : (Int × Unit)) : Le (e_slices_xorshift_Next n_ a) (d_slices_xorshift_Next a) := by
  unfold e_slices_xorshift_Next d_slices_xorshift_Next
  repeat' (first | with_reducible exact Le.refl _  | (with_reducible refine Le.bind ?_ (fun y => ?_)) | (with_reducible refine Le.bif ?_ ?_) | (with_reducible refine Le.loop (fun s => ?_) _ _) | (with_reducible refine Le.atO (fun e => ?_)) | split)
noncomputable def e_memory_Best_1q_1q_q0 (n_ : Nat) : (Int × Int × (Option (List Int)) × (Option (List Int)) × Unit) → Option (Int × Unit) := fun (a_1, b_2, p_3, p_4, _) =>
  (p_3).bind fun y5 =>
  (getI y5 b_2).bind fun y6 =>
  (p_4).bind fun y7 =>
  (getI y7 b_2).bind fun y8 =>
  (p_3).bind fun y9 =>
  (getI y9 a_1).bind fun y10 =>
  (p_4).bind fun y11 =>
  (getI y11 a_1).bind fun y12 =>
  (e_cmp_Compare_int n_ ((IntKind.i64.wrap (y6 - y8)), (IntKind.i64.wrap (y10 - y12)), ())).bind fun (r13, _) =>
  (e_cmp_Compare_int n_ (a_1, b_2, ())).bind fun (r14, _) =>
  (e_cmp_Or_int n_ ([r13, r14], ())).bind fun (r15, _) =>
  some (r15, ())
set_option maxHeartbeats 4000000 in
theorem le_memory_Best_1q_1q_q0 (n_ : Nat) (a : (Int × Int × (Option (List Int)) × (Option (List Int)) × Unit)) : Le (e_memory_Best_1q_1q_q0 n_ a) (d_memory_Best_1q_1q_q0 a) := by
  unfold e_memory_Best_1q_1q_q0 d_memory_Best_1q_1q_q0
  repeat' (first | with_reducible exact Le.refl _ | with_reducible exact le_cmp_Or_int _ _ | with_reducible exact le_cmp_Compare_int _ _ | (with_reducible refine Le.bind ?_ (fun y => ?_)) | (with_reducible refine Le.bif ?_ ?_) | (with_reducible refine Le.loop (fun s => ?_) _ _) | (with_reducible refine Le.atO (fun e => ?_)) | split)
noncomputable def e_slices_insertionSortCmpFunc_int_mem (n_ : Nat) : ((List Int) × Int × Int × ((Option (List Int)) × (Option (List Int)) × Unit) × Unit) → Option ((List Int) × Unit) := fun (data_1, a_2, b_3, cmp_4, _) =>
  (loopN (σ := (Int × (List Int) × Unit)) (ρ := ((List Int) × Unit)) (fun (i_5, data_6, _) =>
  (bif (decide (i_5 < b_3)) then (
  (loopN (σ := (Int × (List Int) × Unit)) (ρ := ((List Int) × Unit)) (fun (j_7, data_8, _) =>
  Option.bind (α := ((List Int) × Unit) ⊕ ((Int × (List Int) × Unit) ⊕ ((List Int) × Unit))) (
  (bif ((decide (j_7 > a_2)) == true) then ((idxN (data_8).length j_7).bind fun k9 =>
  ((atO data_8 k9 fun e10 => some e10)).bind fun y11 =>
  (idxN (data_8).length (IntKind.i64.wrap (j_7 - ((1) : Int)))).bind fun k12 =>
  ((atO data_8 k12 fun e13 => some e13)).bind fun y14 =>
  (e_memory_Best_1q_1q_q0 n_ (y11, y14, cmp_4.1, cmp_4.2.1, ())).bind fun (r15, _) =>
  (bif (decide (r15 < ((0) : Int))) then (
  some (.inl (data_8, ()))) else (
  some (.inr (.inr (data_8, ())))))) else (some (.inr (.inr (data_8, ())))))) fun q => match q with
  | .inl (data_16, _) => (
  (idxN (data_16).length (IntKind.i64.wrap (j_7 - ((1) : Int)))).bind fun k17 =>
  ((atO data_16 k17 fun e18 => some e18)).bind fun y19 =>
  (idxN (data_16).length j_7).bind fun k20 =>
  ((atO data_16 k20 fun e21 => some e21)).bind fun y22 =>
  (idxN (data_16).length j_7).bind fun k23 =>
  ((atO data_16 k23 fun _ => some ((data_16).set k23 y19))).bind fun z25 =>
  (idxN (z25).length (IntKind.i64.wrap (j_7 - ((1) : Int)))).bind fun k26 =>
  ((atO z25 k26 fun _ => some ((z25).set k26 y22))).bind fun z28 =>
  some (.inl ((IntKind.i64.wrap (j_7 - ((1) : Int))), z28, ())))
  | .inr r => some r) n_ (i_5, data_6, ())).bind fun (data_29, _) =>
  some (.inl ((IntKind.i64.wrap (i_5 + ((1) : Int))), data_29, ()))) else (
  some (.inr (data_6, ()))))) n_ ((IntKind.i64.wrap (a_2 + ((1) : Int))), data_1, ())).bind fun (data_30, _) =>
  some (data_30, ())
set_option maxHeartbeats 4000000 in
theorem le_slices_insertionSortCmpFunc_int_mem (n_ : Nat) (a : ((List Int) × Int × Int × ((Option (List Int)) × (Option (List Int)) × Unit) × Unit)) : Le (e_slices_insertionSortCmpFunc_int_mem n_ a) (d_slices_insertionSortCmpFunc_int_mem a) := by
  unfold e_slices_insertionSortCmpFunc_int_mem d_slices_insertionSortCmpFunc_int_mem
  repeat' (first | with_reducible exact Le.refl _ | with_reducible exact le_memory_Best_1q_1q_q0 _ _ | (with_reducible refine Le.bind ?_ (fun y => ?_)) | (with_reducible refine Le.bif ?_ ?_) | (with_reducible refine Le.loop (fun s => ?_) _ _) | (with_reducible refine Le.atO (fun e => ?_)) | split)
noncomputable def e_slices_siftDownCmpFunc_int_mem (n_ : Nat) : ((List Int) × Int × Int × Int × ((Option (List Int)) × (Option (List Int)) × Unit) × Unit) → Option ((List Int) × Unit) := fun (data_1, lo_2, hi_3, first_4, cmp_5, _) =>
  (loopN (σ := (Int × (List Int) × Unit)) (ρ := (((List Int) × Unit) ⊕ ((List Int) × Unit))) (fun (root_6, data_7, _) =>
  (bif (decide ((IntKind.i64.wrap ((IntKind.i64.wrap (((2) : Int) * root_6)) + ((1) : Int))) ≥ hi_3)) then (
  some (.inr (.inl (data_7, ())))) else (
  Option.bind (α := (Int × (List Int) × Unit)) (
  Option.bind (α := (Bool × (List Int) × Unit)) (
  (bif ((decide ((IntKind.i64.wrap ((IntKind.i64.wrap ((IntKind.i64.wrap (((2) : Int) * root_6)) + ((1) : Int))) + ((1) : Int))) < hi_3)) == true) then ((idxN (data_7).length (IntKind.i64.wrap (first_4 + (IntKind.i64.wrap ((IntKind.i64.wrap (((2) : Int) * root_6)) + ((1) : Int)))))).bind fun k8 =>
  ((atO data_7 k8 fun e9 => some e9)).bind fun y10 =>
  (idxN (data_7).length (IntKind.i64.wrap ((IntKind.i64.wrap (first_4 + (IntKind.i64.wrap ((IntKind.i64.wrap (((2) : Int) * root_6)) + ((1) : Int))))) + ((1) : Int)))).bind fun k11 =>
  ((atO data_7 k11 fun e12 => some e12)).bind fun y13 =>
  (e_memory_Best_1q_1q_q0 n_ (y10, y13, cmp_5.1, cmp_5.2.1, ())).bind fun (r14, _) =>
  some ((decide (r14 < ((0) : Int))), data_7, ())) else (some (false, data_7, ())))) fun (s_15, data_16, _) =>
  (bif s_15 then (
  some ((IntKind.i64.wrap ((IntKind.i64.wrap ((IntKind.i64.wrap (((2) : Int) * root_6)) + ((1) : Int))) + ((1) : Int))), data_16, ())) else (
  some ((IntKind.i64.wrap ((IntKind.i64.wrap (((2) : Int) * root_6)) + ((1) : Int))), data_16, ())))) fun (child_17, data_18, _) =>
  (idxN (data_18).length (IntKind.i64.wrap (first_4 + root_6))).bind fun k19 =>
  ((atO data_18 k19 fun e20 => some e20)).bind fun y21 =>
  (idxN (data_18).length (IntKind.i64.wrap (first_4 + child_17))).bind fun k22 =>
  ((atO data_18 k22 fun e23 => some e23)).bind fun y24 =>
  (e_memory_Best_1q_1q_q0 n_ (y21, y24, cmp_5.1, cmp_5.2.1, ())).bind fun (r25, _) =>
  (bif (!(decide (r25 < ((0) : Int)))) then (
  some (.inr (.inr (data_18, ())))) else (
  (idxN (data_18).length (IntKind.i64.wrap (first_4 + child_17))).bind fun k26 =>
  ((atO data_18 k26 fun e27 => some e27)).bind fun y28 =>
  (idxN (data_18).length (IntKind.i64.wrap (first_4 + root_6))).bind fun k29 =>
  ((atO data_18 k29 fun e30 => some e30)).bind fun y31 =>
  (idxN (data_18).length (IntKind.i64.wrap (first_4 + root_6))).bind fun k32 =>
  ((atO data_18 k32 fun _ => some ((data_18).set k32 y28))).bind fun z34 =>
  (idxN (z34).length (IntKind.i64.wrap (first_4 + child_17))).bind fun k35 =>
  ((atO z34 k35 fun _ => some ((z34).set k35 y31))).bind fun z37 =>
  some (.inl (child_17, z37, ()))))))) n_ (lo_2, data_1, ())).bind fun q => match q with
  | .inl (data_38, _) => (
  some (data_38, ()))
  | .inr r => some r
set_option maxHeartbeats 4000000 in
theorem le_slices_siftDownCmpFunc_int_mem (n_ : Nat) (a : ((List Int) × Int × Int × Int × ((Option (List Int)) × (Option (List Int)) × Unit) × Unit)) : Le (e_slices_siftDownCmpFunc_int_mem n_ a) (d_slices_siftDownCmpFunc_int_mem a) := by
  unfold e_slices_siftDownCmpFunc_int_mem d_slices_siftDownCmpFunc_int_mem
  repeat' (first | with_reducible exact Le.refl _ | with_reducible exact le_memory_Best_1q_1q_q0 _ _ | (with_reducible refine Le.bind ?_ (fun y => ?_)) | (with_reducible refine Le.bif ?_ ?_) | (with_reducible refine Le.loop (fun s => ?_) _ _) | (with_reducible refine Le.atO (fun e => ?_)) | split)
noncomputable def e_slices_heapSortCmpFunc_int_mem (n_ : Nat) : ((List Int) × Int × Int × ((Option (List Int)) × (Option (List Int)) × Unit) × Unit) → Option ((List Int) × Unit) := fun (data_1, a_2, b_3, cmp_4, _) =>
  (quoO IntKind.i64 (IntKind.i64.wrap ((IntKind.i64.wrap (b_3 - a_2)) - ((1) : Int))) ((2) : Int)).bind fun y5 =>
  (loopN (σ := (Int × (List Int) × Unit)) (ρ := ((List Int) × Unit)) (fun (i_6, data_7, _) =>
  (bif (decide (i_6 ≥ ((0) : Int))) then (
  (e_slices_siftDownCmpFunc_int_mem n_ (data_7, i_6, (IntKind.i64.wrap (b_3 - a_2)), a_2, (cmp_4.1, cmp_4.2.1, ()), ())).bind fun (m8, _) =>
  some (.inl ((IntKind.i64.wrap (i_6 - ((1) : Int))), m8, ()))) else (
  some (.inr (data_7, ()))))) n_ (y5, data_1, ())).bind fun (data_9, _) =>
  (loopN (σ := (Int × (List Int) × Unit)) (ρ := ((List Int) × Unit)) (fun (i_10, data_11, _) =>
  (bif (decide (i_10 ≥ ((0) : Int))) then (
  (idxN (data_11).length (IntKind.i64.wrap (a_2 + i_10))).bind fun k12 =>
  ((atO data_11 k12 fun e13 => some e13)).bind fun y14 =>
  (idxN (data_11).length a_2).bind fun k15 =>
  ((atO data_11 k15 fun e16 => some e16)).bind fun y17 =>
  (idxN (data_11).length a_2).bind fun k18 =>
  ((atO data_11 k18 fun _ => some ((data_11).set k18 y14))).bind fun z20 =>
  (idxN (z20).length (IntKind.i64.wrap (a_2 + i_10))).bind fun k21 =>
  ((atO z20 k21 fun _ => some ((z20).set k21 y17))).bind fun z23 =>
  (e_slices_siftDownCmpFunc_int_mem n_ (z23, ((0) : Int), i_10, a_2, (cmp_4.1, cmp_4.2.1, ()), ())).bind fun (m24, _) =>
  some (.inl ((IntKind.i64.wrap (i_10 - ((1) : Int))), m24, ()))) else (
  some (.inr (data_11, ()))))) n_ ((IntKind.i64.wrap ((IntKind.i64.wrap (b_3 - a_2)) - ((1) : Int))), data_9, ())).bind fun (data_25, _) =>
  some (data_25, ())
set_option maxHeartbeats 4000000 in
theorem le_slices_heapSortCmpFunc_int_mem (n_ : Nat) (a : ((List Int) × Int × Int × ((Option (List Int)) × (Option (List Int)) × Unit) × Unit)) : Le (e_slices_heapSortCmpFunc_int_mem n_ a) (d_slices_heapSortCmpFunc_int_mem a) := by
  unfold e_slices_heapSortCmpFunc_int_mem d_slices_heapSortCmpFunc_int_mem
  repeat' (first | with_reducible exact Le.refl _ | with_reducible exact le_slices_siftDownCmpFunc_int_mem _ _ | (with_reducible refine Le.bind ?_ (fun y => ?_)) | (with_reducible refine Le.bif ?_ ?_) | (with_reducible refine Le.loop (fun s => ?_) _ _) | (with_reducible refine Le.atO (fun e => ?_)) | split)
noncomputable def e_slices_breakPatternsCmpFunc_int_mem (n_ : Nat) : ((List Int) × Int × Int × ((Option (List Int)) × (Option (List Int)) × Unit) × Unit) → Option ((List Int) × Unit) := fun (data_1, a_2, b_3, _, _) =>
  (bif (decide ((IntKind.i64.wrap (b_3 - a_2)) ≥ ((8) : Int))) then (
  (e_slices_nextPowerOfTwo n_ ((IntKind.i64.wrap (b_3 - a_2)), ())).bind fun (r5, _) =>
  (quoO IntKind.i64 (IntKind.i64.wrap (b_3 - a_2)) ((4) : Int)).bind fun y6 =>
  (loopN (σ := (Int × (List Int) × Int × Unit)) (ρ := ((List Int) × Unit)) (fun (idx_7, data_8, random_9, _) =>
  (quoO IntKind.i64 (IntKind.i64.wrap (b_3 - a_2)) ((4) : Int)).bind fun y10 =>
  (bif (decide (idx_7 ≤ (IntKind.i64.wrap ((IntKind.i64.wrap (a_2 + (IntKind.i64.wrap (y10 * ((2) : Int))))) + ((1) : Int))))) then (
  Option.bind (α := ((List Int) × Int × Unit)) (
  (e_slices_xorshift_Next n_ (random_9, ())).bind fun (m11, r12, _) =>
  Option.bind (α := (Int × (List Int) × Int × Unit)) (
  (bif (decide ((IntKind.i64.wrap (andI IntKind.u64 r12 (IntKind.u64.wrap (r5 - ((1) : Int))))) ≥ (IntKind.i64.wrap (b_3 - a_2)))) then (
  some ((IntKind.i64.wrap ((IntKind.i64.wrap (andI IntKind.u64 r12 (IntKind.u64.wrap (r5 - ((1) : Int))))) - (IntKind.i64.wrap (b_3 - a_2)))), data_8, m11, ())) else (
  some ((IntKind.i64.wrap (andI IntKind.u64 r12 (IntKind.u64.wrap (r5 - ((1) : Int))))), data_8, m11, ())))) fun (other_13, data_14, random_15, _) =>
  (idxN (data_14).length (IntKind.i64.wrap (a_2 + other_13))).bind fun k16 =>
  ((atO data_14 k16 fun e17 => some e17)).bind fun y18 =>
  (idxN (data_14).length idx_7).bind fun k19 =>
  ((atO data_14 k19 fun e20 => some e20)).bind fun y21 =>
  (idxN (data_14).length idx_7).bind fun k22 =>
  ((atO data_14 k22 fun _ => some ((data_14).set k22 y18))).bind fun z24 =>
  (idxN (z24).length (IntKind.i64.wrap (a_2 + other_13))).bind fun k25 =>
  ((atO z24 k25 fun _ => some ((z24).set k25 y21))).bind fun z27 =>
  some (z27, random_15, ())) fun (data_28, random_29, _) =>
  some (.inl ((IntKind.i64.wrap (idx_7 + ((1) : Int))), data_28, random_29, ()))) else (
  some (.inr (data_8, ()))))) n_ ((IntKind.i64.wrap ((IntKind.i64.wrap (a_2 + (IntKind.i64.wrap (y6 * ((2) : Int))))) - ((1) : Int))), data_1, (IntKind.u64.wrap (IntKind.i64.wrap (b_3 - a_2))), ())).bind fun (data_30, _) =>
  some (data_30, ())) else (
  some (data_1, ())))
set_option maxHeartbeats 4000000 in
theorem le_slices_breakPatternsCmpFunc_int_mem (n_ : Nat) (a : ((List Int) × Int × Int × ((Option (List Int)) × (Option (List Int)) × Unit) × Unit)) : Le (e_slices_breakPatternsCmpFunc_int_mem n_ a) (d_slices_breakPatternsCmpFunc_int_mem a) := by
  unfold e_slices_breakPatternsCmpFunc_int_mem d_slices_breakPatternsCmpFunc_int_mem
  repeat' (first | with_reducible exact Le.refl _ | with_reducible exact le_slices_nextPowerOfTwo _ _ | with_reducible exact le_slices_xorshift_Next _ _ | (with_reducible refine Le.bind ?_ (fun y => ?_)) | (with_reducible refine Le.bif ?_ ?_) | (with_reducible refine Le.loop (fun s => ?_) _ _) | (with_reducible refine Le.atO (fun e => ?_)) | split)
noncomputable def e_slices_order2CmpFunc_int_mem (n_ : Nat) : ((List Int) × Int × Int × Int × ((Option (List Int)) × (Option (List Int)) × Unit) × Unit) → Option (Int × Int × Int × Unit) := fun (data_1, a_2, b_3, swaps_4, cmp_5, _) =>
  (getI data_1 b_3).bind fun y6 =>
  (getI data_1 a_2).bind fun y7 =>
  (e_memory_Best_1q_1q_q0 n_ (y6, y7, cmp_5.1, cmp_5.2.1, ())).bind fun (r8, _) =>
  (bif (decide (r8 < ((0) : Int))) then (
  some ((IntKind.i64.wrap (swaps_4 + ((1) : Int))), b_3, a_2, ())) else (
  some (swaps_4, a_2, b_3, ())))
set_option maxHeartbeats 4000000 in
theorem le_slices_order2CmpFunc_int_mem (n_ : Nat) (a : ((List Int) × Int × Int × Int × ((Option (List Int)) × (Option (List Int)) × Unit) × Unit)) : Le (e_slices_order2CmpFunc_int_mem n_ a) (d_slices_order2CmpFunc_int_mem a) := by
  unfold e_slices_order2CmpFunc_int_mem d_slices_order2CmpFunc_int_mem
  repeat' (first | with_reducible exact Le.refl _ | with_reducible exact le_memory_Best_1q_1q_q0 _ _ | (with_reducible refine Le.bind ?_ (fun y => ?_)) | (with_reducible refine Le.bif ?_ ?_) | (with_reducible refine Le.loop (fun s => ?_) _ _) | (with_reducible refine Le.atO (fun e => ?_)) | split)
noncomputable def e_slices_medianCmpFunc_int_mem (n_ : Nat) : ((List Int) × Int × Int × Int × Int × ((Option (List Int)) × (Option (List Int)) × Unit) × Unit) → Option (Int × Int × Unit) := fun (data_1, a_2, b_3, c_4, swaps_5, cmp_6, _) =>
  (e_slices_order2CmpFunc_int_mem n_ (data_1, a_2, b_3, swaps_5, (cmp_6.1, cmp_6.2.1, ()), ())).bind fun (m7, r8, r9, _) =>
  (e_slices_order2CmpFunc_int_mem n_ (data_1, r9, c_4, m7, (cmp_6.1, cmp_6.2.1, ()), ())).bind fun (m10, r11, _, _) =>
  (e_slices_order2CmpFunc_int_mem n_ (data_1, r8, r11, m10, (cmp_6.1, cmp_6.2.1, ()), ())).bind fun (m13, _, r15, _) =>
  some (m13, r15, ())
set_option maxHeartbeats 4000000 in
theorem le_slices_medianCmpFunc_int_mem (n_ : Nat) (a : ((List Int) × Int × Int × Int × Int × ((Option (List Int)) × (Option (List Int)) × Unit) × Unit)) : Le (e_slices_medianCmpFunc_int_mem n_ a) (d_slices_medianCmpFunc_int_mem a) := by
  unfold e_slices_medianCmpFunc_int_mem d_slices_medianCmpFunc_int_mem
  repeat' (first | with_reducible exact Le.refl _ | with_reducible exact le_slices_order2CmpFunc_int_mem _ _ | (with_reducible refine Le.bind ?_ (fun y => ?_)) | (with_reducible refine Le.bif ?_ ?_) | (with_reducible refine Le.loop (fun s => ?_) _ _) | (with_reducible refine Le.atO (fun e => ?_)) | split)
noncomputable def e_slices_medianAdjacentCmpFunc_int_mem (n_ : Nat) : ((List Int) × Int × Int × ((Option (List Int)) × (Option (List Int)) × Unit) × Unit) → Option (Int × Int × Unit) := fun (data_1, a_2, swaps_3, cmp_4, _) =>
  (e_slices_medianCmpFunc_int_mem n_ (data_1, (IntKind.i64.wrap (a_2 - ((1) : Int))), a_2, (IntKind.i64.wrap (a_2 + ((1) : Int))), swaps_3, (cmp_4.1, cmp_4.2.1, ()), ())).bind fun (m5, r6, _) =>
  some (m5, r6, ())
set_option maxHeartbeats 4000000 in
theorem le_slices_medianAdjacentCmpFunc_int_mem (n_ : Nat) (a : ((List Int) × Int × Int × ((Option (List Int)) × (Option (List Int)) × Unit) × Unit)) : Le (e_slices_medianAdjacentCmpFunc_int_mem n_ a) (d_slices_medianAdjacentCmpFunc_int_mem a) := by
  unfold e_slices_medianAdjacentCmpFunc_int_mem d_slices_medianAdjacentCmpFunc_int_mem
  repeat' (first | with_reducible exact Le.refl _ | with_reducible exact le_slices_medianCmpFunc_int_mem _ _ | (with_reducible refine Le.bind ?_ (fun y => ?_)) | (with_reducible refine Le.bif ?_ ?_) | (with_reducible refine Le.loop (fun s => ?_) _ _) | (with_reducible refine Le.atO (fun e => ?_)) | split)
noncomputable def e_slices_choosePivotCmpFunc_int_mem (n_ : Nat) : ((List Int) × Int × Int × ((Option (List Int)) × (Option (List Int)) × Unit) × Unit) → Option (Int × Int × Unit) := fun (data_1, a_2, b_3, cmp_4, _) =>
  (quoO IntKind.i64 (IntKind.i64.wrap (b_3 - a_2)) ((4) : Int)).bind fun y5 =>
  (quoO IntKind.i64 (IntKind.i64.wrap (b_3 - a_2)) ((4) : Int)).bind fun y6 =>
  (quoO IntKind.i64 (IntKind.i64.wrap (b_3 - a_2)) ((4) : Int)).bind fun y7 =>
  Option.bind (α := (Int × Int × Unit)) (
  (bif (decide ((IntKind.i64.wrap (b_3 - a_2)) ≥ ((8) : Int))) then (
  Option.bind (α := (Int × Int × Int × Int × Unit)) (
  (bif (decide ((IntKind.i64.wrap (b_3 - a_2)) ≥ ((50) : Int))) then (
  (e_slices_medianAdjacentCmpFunc_int_mem n_ (data_1, (IntKind.i64.wrap (a_2 + (IntKind.i64.wrap (y5 * ((1) : Int))))), (0 : Int), (cmp_4.1, cmp_4.2.1, ()), ())).bind fun (m8, r9, _) =>
  (e_slices_medianAdjacentCmpFunc_int_mem n_ (data_1, (IntKind.i64.wrap (a_2 + (IntKind.i64.wrap (y6 * ((2) : Int))))), m8, (cmp_4.1, cmp_4.2.1, ()), ())).bind fun (m10, r11, _) =>
  (e_slices_medianAdjacentCmpFunc_int_mem n_ (data_1, (IntKind.i64.wrap (a_2 + (IntKind.i64.wrap (y7 * ((3) : Int))))), m10, (cmp_4.1, cmp_4.2.1, ()), ())).bind fun (m12, r13, _) =>
  some (r9, r11, r13, m12, ())) else (
  some ((IntKind.i64.wrap (a_2 + (IntKind.i64.wrap (y5 * ((1) : Int))))), (IntKind.i64.wrap (a_2 + (IntKind.i64.wrap (y6 * ((2) : Int))))), (IntKind.i64.wrap (a_2 + (IntKind.i64.wrap (y7 * ((3) : Int))))), (0 : Int), ())))) fun (i_14, j_15, k_16, swaps_17, _) =>
  (e_slices_medianCmpFunc_int_mem n_ (data_1, i_14, j_15, k_16, swaps_17, (cmp_4.1, cmp_4.2.1, ()), ())).bind fun (m18, r19, _) =>
  some (r19, m18, ())) else (
  some ((IntKind.i64.wrap (a_2 + (IntKind.i64.wrap (y6 * ((2) : Int))))), (0 : Int), ())))) fun (j_20, swaps_21, _) =>
  (bif (swaps_21 == ((0) : Int)) then (
  some (j_20, ((1) : Int), ())) else (
  (bif (swaps_21 == ((12) : Int)) then (
  some (j_20, ((2) : Int), ())) else (
  some (j_20, ((0) : Int), ())))))
set_option maxHeartbeats 4000000 in
theorem le_slices_choosePivotCmpFunc_int_mem (n_ : Nat) (a : ((List Int) × Int × Int × ((Option (List Int)) × (Option (List Int)) × Unit) × Unit)) : Le (e_slices_choosePivotCmpFunc_int_mem n_ a) (d_slices_choosePivotCmpFunc_int_mem a) := by
  unfold e_slices_choosePivotCmpFunc_int_mem d_slices_choosePivotCmpFunc_int_mem
  repeat' (first | with_reducible exact Le.refl _ | with_reducible exact le_slices_medianAdjacentCmpFunc_int_mem _ _ | with_reducible exact le_slices_medianCmpFunc_int_mem _ _ | (with_reducible refine Le.bind ?_ (fun y => ?_)) | (with_reducible refine Le.bif ?_ ?_) | (with_reducible refine Le.loop (fun s => ?_) _ _) | (with_reducible refine Le.atO (fun e => ?_)) | split)
noncomputable def e_slices_reverseRangeCmpFunc_int_mem (n_ : Nat) : ((List Int) × Int × Int × ((Option (List Int)) × (Option (List Int)) × Unit) × Unit) → Option ((List Int) × Unit) := fun (data_1, a_2, b_3, _, _) =>
  (loopN (σ := (Int × Int × (List Int) × Unit)) (ρ := ((List Int) × Unit)) (fun (i_5, j_6, data_7, _) =>
  (bif (decide (i_5 < j_6)) then (
  (idxN (data_7).length j_6).bind fun k8 =>
  ((atO data_7 k8 fun e9 => some e9)).bind fun y10 =>
  (idxN (data_7).length i_5).bind fun k11 =>
  ((atO data_7 k11 fun e12 => some e12)).bind fun y13 =>
  (idxN (data_7).length i_5).bind fun k14 =>
  ((atO data_7 k14 fun _ => some ((data_7).set k14 y10))).bind fun z16 =>
  (idxN (z16).length j_6).bind fun k17 =>
  ((atO z16 k17 fun _ => some ((z16).set k17 y13))).bind fun z19 =>
  some (.inl ((IntKind.i64.wrap (i_5 + ((1) : Int))), (IntKind.i64.wrap (j_6 - ((1) : Int))), z19, ()))) else (
  some (.inr (data_7, ()))))) n_ (a_2, (IntKind.i64.wrap (b_3 - ((1) : Int))), data_1, ())).bind fun (data_20, _) =>
  some (data_20, ())
set_option maxHeartbeats 4000000 in
theorem le_slices_reverseRangeCmpFunc_int_mem (n_ : Nat) (a : ((List Int) × Int × Int × ((Option (List Int)) × (Option (List Int)) × Unit) × Unit)) : Le (e_slices_reverseRangeCmpFunc_int_mem n_ a) (d_slices_reverseRangeCmpFunc_int_mem a) := by
  unfold e_slices_reverseRangeCmpFunc_int_mem d_slices_reverseRangeCmpFunc_int_mem
  repeat' (first | with_reducible exact Le.refl _  | (with_reducible refine Le.bind ?_ (fun y => ?_)) | (with_reducible refine Le.bif ?_ ?_) | (with_reducible refine Le.loop (fun s => ?_) _ _) | (with_reducible refine Le.atO (fun e => ?_)) | split)
noncomputable def e_slices_partialInsertionSortCmpFunc_int_mem (n_ : Nat) : ((List Int) × Int × Int × ((Option (List Int)) × (Option (List Int)) × Unit) × Unit) → Option ((List Int) × Bool × Unit) := fun (data_1, a_2, b_3, cmp_4, _) =>
  (loopN (σ := (Int × Int × (List Int) × Unit)) (ρ := (((List Int) × Unit) ⊕ ((List Int) × Bool × Unit))) (fun (i_5, j_6, data_7, _) =>
  (bif (decide (j_6 < ((5) : Int))) then (
  Option.bind (α := (Int × (List Int) × Unit) ⊕ ((Int × Int × (List Int) × Unit) ⊕ (((List Int) × Unit) ⊕ ((List Int) × Bool × Unit)))) (
  (loopN (σ := (Int × (List Int) × Unit)) (ρ := (Int × (List Int) × Unit)) (fun (i_8, data_9, _) =>
  Option.bind (α := ((List Int) × Unit) ⊕ ((Int × (List Int) × Unit) ⊕ (Int × (List Int) × Unit))) (
  (bif ((decide (i_8 < b_3)) == true) then ((idxN (data_9).length i_8).bind fun k10 =>
  ((atO data_9 k10 fun e11 => some e11)).bind fun y12 =>
  (idxN (data_9).length (IntKind.i64.wrap (i_8 - ((1) : Int)))).bind fun k13 =>
  ((atO data_9 k13 fun e14 => some e14)).bind fun y15 =>
  (e_memory_Best_1q_1q_q0 n_ (y12, y15, cmp_4.1, cmp_4.2.1, ())).bind fun (r16, _) =>
  (bif (!(decide (r16 < ((0) : Int)))) then (
  some (.inl (data_9, ()))) else (
  some (.inr (.inr (i_8, data_9, ())))))) else (some (.inr (.inr (i_8, data_9, ())))))) fun q => match q with
  | .inl (data_17, _) => (
  some (.inl ((IntKind.i64.wrap (i_8 + ((1) : Int))), data_17, ())))
  | .inr r => some r) n_ (i_5, data_7, ())).bind fun (i_18, data_19, _) =>
  (bif (i_18 == b_3) then (
  some (.inr (.inr (.inr (data_19, true, ()))))) else (
  (bif (decide ((IntKind.i64.wrap (b_3 - a_2)) < ((50) : Int))) then (
  some (.inr (.inr (.inr (data_19, false, ()))))) else (
  (idxN (data_19).length (IntKind.i64.wrap (i_18 - ((1) : Int)))).bind fun k20 =>
  ((atO data_19 k20 fun e21 => some e21)).bind fun y22 =>
  (idxN (data_19).length i_18).bind fun k23 =>
  ((atO data_19 k23 fun e24 => some e24)).bind fun y25 =>
  (idxN (data_19).length i_18).bind fun k26 =>
  ((atO data_19 k26 fun _ => some ((data_19).set k26 y22))).bind fun z28 =>
  (idxN (z28).length (IntKind.i64.wrap (i_18 - ((1) : Int)))).bind fun k29 =>
  ((atO z28 k29 fun _ => some ((z28).set k29 y25))).bind fun z31 =>
  Option.bind (α := ((List Int) × Unit)) (
  (bif (decide ((IntKind.i64.wrap (i_18 - a_2)) ≥ ((2) : Int))) then (
  (loopN (σ := (Int × (List Int) × Unit)) (ρ := ((List Int) × Unit)) (fun (j_32, data_33, _) =>
  (bif (decide (j_32 ≥ ((1) : Int))) then (
  (idxN (data_33).length j_32).bind fun k34 =>
  ((atO data_33 k34 fun e35 => some e35)).bind fun y36 =>
  (idxN (data_33).length (IntKind.i64.wrap (j_32 - ((1) : Int)))).bind fun k37 =>
  ((atO data_33 k37 fun e38 => some e38)).bind fun y39 =>
  (e_memory_Best_1q_1q_q0 n_ (y36, y39, cmp_4.1, cmp_4.2.1, ())).bind fun (r40, _) =>
  (bif (!(decide (r40 < ((0) : Int)))) then (
  some (.inr (data_33, ()))) else (
  (idxN (data_33).length (IntKind.i64.wrap (j_32 - ((1) : Int)))).bind fun k41 =>
  ((atO data_33 k41 fun e42 => some e42)).bind fun y43 =>
  (idxN (data_33).length j_32).bind fun k44 =>
  ((atO data_33 k44 fun e45 => some e45)).bind fun y46 =>
  (idxN (data_33).length j_32).bind fun k47 =>
  ((atO data_33 k47 fun _ => some ((data_33).set k47 y43))).bind fun z49 =>
  (idxN (z49).length (IntKind.i64.wrap (j_32 - ((1) : Int)))).bind fun k50 =>
  ((atO z49 k50 fun _ => some ((z49).set k50 y46))).bind fun z52 =>
  some (.inl ((IntKind.i64.wrap (j_32 - ((1) : Int))), z52, ()))))) else (
  some (.inr (data_33, ()))))) n_ ((IntKind.i64.wrap (i_18 - ((1) : Int))), z31, ())).bind fun (data_53, _) =>
  some (data_53, ())) else (
  some (z31, ())))) fun (data_54, _) =>
  (bif (decide ((IntKind.i64.wrap (b_3 - i_18)) ≥ ((2) : Int))) then (
  (loopN (σ := (Int × (List Int) × Unit)) (ρ := ((List Int) × Unit)) (fun (j_55, data_56, _) =>
  (bif (decide (j_55 < b_3)) then (
  (idxN (data_56).length j_55).bind fun k57 =>
  ((atO data_56 k57 fun e58 => some e58)).bind fun y59 =>
  (idxN (data_56).length (IntKind.i64.wrap (j_55 - ((1) : Int)))).bind fun k60 =>
  ((atO data_56 k60 fun e61 => some e61)).bind fun y62 =>
  (e_memory_Best_1q_1q_q0 n_ (y59, y62, cmp_4.1, cmp_4.2.1, ())).bind fun (r63, _) =>
  (bif (!(decide (r63 < ((0) : Int)))) then (
  some (.inr (data_56, ()))) else (
  (idxN (data_56).length (IntKind.i64.wrap (j_55 - ((1) : Int)))).bind fun k64 =>
  ((atO data_56 k64 fun e65 => some e65)).bind fun y66 =>
  (idxN (data_56).length j_55).bind fun k67 =>
  ((atO data_56 k67 fun e68 => some e68)).bind fun y69 =>
  (idxN (data_56).length j_55).bind fun k70 =>
  ((atO data_56 k70 fun _ => some ((data_56).set k70 y66))).bind fun z72 =>
  (idxN (z72).length (IntKind.i64.wrap (j_55 - ((1) : Int)))).bind fun k73 =>
  ((atO z72 k73 fun _ => some ((z72).set k73 y69))).bind fun z75 =>
  some (.inl ((IntKind.i64.wrap (j_55 + ((1) : Int))), z75, ()))))) else (
  some (.inr (data_56, ()))))) n_ ((IntKind.i64.wrap (i_18 + ((1) : Int))), data_54, ())).bind fun (data_76, _) =>
  some (.inl (i_18, data_76, ()))) else (
  some (.inl (i_18, data_54, ()))))))))) fun q => match q with
  | .inl (i_77, data_78, _) => (
  some (.inl (i_77, (IntKind.i64.wrap (j_6 + ((1) : Int))), data_78, ())))
  | .inr r => some r) else (
  some (.inr (.inl (data_7, ())))))) n_ ((IntKind.i64.wrap (a_2 + ((1) : Int))), ((0) : Int), data_1, ())).bind fun q => match q with
  | .inl (data_79, _) => (
  some (data_79, false, ()))
  | .inr r => some r
set_option maxHeartbeats 4000000 in
theorem le_slices_partialInsertionSortCmpFunc_int_mem (n_ : Nat) (a : ((List Int) × Int × Int × ((Option (List Int)) × (Option (List Int)) × Unit) × Unit)) : Le (e_slices_partialInsertionSortCmpFunc_int_mem n_ a) (d_slices_partialInsertionSortCmpFunc_int_mem a) := by
  unfold e_slices_partialInsertionSortCmpFunc_int_mem d_slices_partialInsertionSortCmpFunc_int_mem
  repeat' (first | with_reducible exact Le.refl _ | with_reducible exact le_memory_Best_1q_1q_q0 _ _ | (with_reducible refine Le.bind ?_ (fun y => ?_)) | (with_reducible refine Le.bif ?_ ?_) | (with_reducible refine Le.loop (fun s => ?_) _ _) | (with_reducible refine Le.atO (fun e => ?_)) | split)
noncomputable def e_slices_partitionEqualCmpFunc_int_mem (n_ : Nat) : ((List Int) × Int × Int × Int × ((Option (List Int)) × (Option (List Int)) × Unit) × Unit) → Option ((List Int) × Int × Unit) := fun (data_1, a_2, b_3, pivot_4, cmp_5, _) =>
  (idxN (data_1).length pivot_4).bind fun k6 =>
  ((atO data_1 k6 fun e7 => some e7)).bind fun y8 =>
  (idxN (data_1).length a_2).bind fun k9 =>
  ((atO data_1 k9 fun e10 => some e10)).bind fun y11 =>
  (idxN (data_1).length a_2).bind fun k12 =>
  ((atO data_1 k12 fun _ => some ((data_1).set k12 y8))).bind fun z14 =>
  (idxN (z14).length pivot_4).bind fun k15 =>
  ((atO z14 k15 fun _ => some ((z14).set k15 y11))).bind fun z17 =>
  (loopN (σ := (Int × Int × (List Int) × Unit)) (ρ := (Int × (List Int) × Unit)) (fun (i_18, j_19, data_20, _) =>
  (loopN (σ := (Int × (List Int) × Unit)) (ρ := (Int × (List Int) × Unit)) (fun (i_21, data_22, _) =>
  Option.bind (α := ((List Int) × Unit) ⊕ ((Int × (List Int) × Unit) ⊕ (Int × (List Int) × Unit))) (
  (bif ((decide (i_21 ≤ j_19)) == true) then ((idxN (data_22).length a_2).bind fun k23 =>
  ((atO data_22 k23 fun e24 => some e24)).bind fun y25 =>
  (idxN (data_22).length i_21).bind fun k26 =>
  ((atO data_22 k26 fun e27 => some e27)).bind fun y28 =>
  (e_memory_Best_1q_1q_q0 n_ (y25, y28, cmp_5.1, cmp_5.2.1, ())).bind fun (r29, _) =>
  (bif (!(decide (r29 < ((0) : Int)))) then (
  some (.inl (data_22, ()))) else (
  some (.inr (.inr (i_21, data_22, ())))))) else (some (.inr (.inr (i_21, data_22, ())))))) fun q => match q with
  | .inl (data_30, _) => (
  some (.inl ((IntKind.i64.wrap (i_21 + ((1) : Int))), data_30, ())))
  | .inr r => some r) n_ (i_18, data_20, ())).bind fun (i_31, data_32, _) =>
  (loopN (σ := (Int × (List Int) × Unit)) (ρ := (Int × (List Int) × Unit)) (fun (j_33, data_34, _) =>
  Option.bind (α := ((List Int) × Unit) ⊕ ((Int × (List Int) × Unit) ⊕ (Int × (List Int) × Unit))) (
  (bif ((decide (i_31 ≤ j_33)) == true) then ((idxN (data_34).length a_2).bind fun k35 =>
  ((atO data_34 k35 fun e36 => some e36)).bind fun y37 =>
  (idxN (data_34).length j_33).bind fun k38 =>
  ((atO data_34 k38 fun e39 => some e39)).bind fun y40 =>
  (e_memory_Best_1q_1q_q0 n_ (y37, y40, cmp_5.1, cmp_5.2.1, ())).bind fun (r41, _) =>
  (bif (decide (r41 < ((0) : Int))) then (
  some (.inl (data_34, ()))) else (
  some (.inr (.inr (j_33, data_34, ())))))) else (some (.inr (.inr (j_33, data_34, ())))))) fun q => match q with
  | .inl (data_42, _) => (
  some (.inl ((IntKind.i64.wrap (j_33 - ((1) : Int))), data_42, ())))
  | .inr r => some r) n_ (j_19, data_32, ())).bind fun (j_43, data_44, _) =>
  (bif (decide (i_31 > j_43)) then (
  some (.inr (i_31, data_44, ()))) else (
  (idxN (data_44).length j_43).bind fun k45 =>
  ((atO data_44 k45 fun e46 => some e46)).bind fun y47 =>
  (idxN (data_44).length i_31).bind fun k48 =>
  ((atO data_44 k48 fun e49 => some e49)).bind fun y50 =>
  (idxN (data_44).length i_31).bind fun k51 =>
  ((atO data_44 k51 fun _ => some ((data_44).set k51 y47))).bind fun z53 =>
  (idxN (z53).length j_43).bind fun k54 =>
  ((atO z53 k54 fun _ => some ((z53).set k54 y50))).bind fun z56 =>
  some (.inl ((IntKind.i64.wrap (i_31 + ((1) : Int))), (IntKind.i64.wrap (j_43 - ((1) : Int))), z56, ()))))) n_ ((IntKind.i64.wrap (a_2 + ((1) : Int))), (IntKind.i64.wrap (b_3 - ((1) : Int))), z17, ())).bind fun (i_57, data_58, _) =>
  some (data_58, i_57, ())
set_option maxHeartbeats 4000000 in
theorem le_slices_partitionEqualCmpFunc_int_mem (n_ : Nat) (a : ((List Int) × Int × Int × Int × ((Option (List Int)) × (Option (List Int)) × Unit) × Unit)) : Le (e_slices_partitionEqualCmpFunc_int_mem n_ a) (d_slices_partitionEqualCmpFunc_int_mem a) := by
  unfold e_slices_partitionEqualCmpFunc_int_mem d_slices_partitionEqualCmpFunc_int_mem
  repeat' (first | with_reducible exact Le.refl _ | with_reducible exact le_memory_Best_1q_1q_q0 _ _ | (with_reducible refine Le.bind ?_ (fun y => ?_)) | (with_reducible refine Le.bif ?_ ?_) | (with_reducible refine Le.loop (fun s => ?_) _ _) | (with_reducible refine Le.atO (fun e => ?_)) | split)
noncomputable def e_slices_partitionCmpFunc_int_mem (n_ : Nat) : ((List Int) × Int × Int × Int × ((Option (List Int)) × (Option (List Int)) × Unit) × Unit) → Option ((List Int) × Int × Bool × Unit) := fun (data_1, a_2, b_3, pivot_4, cmp_5, _) =>
  (idxN (data_1).length pivot_4).bind fun k6 =>
  ((atO data_1 k6 fun e7 => some e7)).bind fun y8 =>
  (idxN (data_1).length a_2).bind fun k9 =>
  ((atO data_1 k9 fun e10 => some e10)).bind fun y11 =>
  (idxN (data_1).length a_2).bind fun k12 =>
  ((atO data_1 k12 fun _ => some ((data_1).set k12 y8))).bind fun z14 =>
  (idxN (z14).length pivot_4).bind fun k15 =>
  ((atO z14 k15 fun _ => some ((z14).set k15 y11))).bind fun z17 =>
  (loopN (σ := (Int × (List Int) × Unit)) (ρ := (Int × (List Int) × Unit)) (fun (i_18, data_19, _) =>
  Option.bind (α := ((List Int) × Unit) ⊕ ((Int × (List Int) × Unit) ⊕ (Int × (List Int) × Unit))) (
  (bif ((decide (i_18 ≤ (IntKind.i64.wrap (b_3 - ((1) : Int))))) == true) then ((idxN (data_19).length i_18).bind fun k20 =>
  ((atO data_19 k20 fun e21 => some e21)).bind fun y22 =>
  (idxN (data_19).length a_2).bind fun k23 =>
  ((atO data_19 k23 fun e24 => some e24)).bind fun y25 =>
  (e_memory_Best_1q_1q_q0 n_ (y22, y25, cmp_5.1, cmp_5.2.1, ())).bind fun (r26, _) =>
  (bif (decide (r26 < ((0) : Int))) then (
  some (.inl (data_19, ()))) else (
  some (.inr (.inr (i_18, data_19, ())))))) else (some (.inr (.inr (i_18, data_19, ())))))) fun q => match q with
  | .inl (data_27, _) => (
  some (.inl ((IntKind.i64.wrap (i_18 + ((1) : Int))), data_27, ())))
  | .inr r => some r) n_ ((IntKind.i64.wrap (a_2 + ((1) : Int))), z17, ())).bind fun (i_28, data_29, _) =>
  (loopN (σ := (Int × (List Int) × Unit)) (ρ := (Int × (List Int) × Unit)) (fun (j_30, data_31, _) =>
  Option.bind (α := ((List Int) × Unit) ⊕ ((Int × (List Int) × Unit) ⊕ (Int × (List Int) × Unit))) (
  (bif ((decide (i_28 ≤ j_30)) == true) then ((idxN (data_31).length j_30).bind fun k32 =>
  ((atO data_31 k32 fun e33 => some e33)).bind fun y34 =>
  (idxN (data_31).length a_2).bind fun k35 =>
  ((atO data_31 k35 fun e36 => some e36)).bind fun y37 =>
  (e_memory_Best_1q_1q_q0 n_ (y34, y37, cmp_5.1, cmp_5.2.1, ())).bind fun (r38, _) =>
  (bif (!(decide (r38 < ((0) : Int)))) then (
  some (.inl (data_31, ()))) else (
  some (.inr (.inr (j_30, data_31, ())))))) else (some (.inr (.inr (j_30, data_31, ())))))) fun q => match q with
  | .inl (data_39, _) => (
  some (.inl ((IntKind.i64.wrap (j_30 - ((1) : Int))), data_39, ())))
  | .inr r => some r) n_ ((IntKind.i64.wrap (b_3 - ((1) : Int))), data_29, ())).bind fun (j_40, data_41, _) =>
  (bif (decide (i_28 > j_40)) then (
  (idxN (data_41).length a_2).bind fun k42 =>
  ((atO data_41 k42 fun e43 => some e43)).bind fun y44 =>
  (idxN (data_41).length j_40).bind fun k45 =>
  ((atO data_41 k45 fun e46 => some e46)).bind fun y47 =>
  (idxN (data_41).length j_40).bind fun k48 =>
  ((atO data_41 k48 fun _ => some ((data_41).set k48 y44))).bind fun z50 =>
  (idxN (z50).length a_2).bind fun k51 =>
  ((atO z50 k51 fun _ => some ((z50).set k51 y47))).bind fun z53 =>
  some (z53, j_40, true, ())) else (
  (idxN (data_41).length j_40).bind fun k54 =>
  ((atO data_41 k54 fun e55 => some e55)).bind fun y56 =>
  (idxN (data_41).length i_28).bind fun k57 =>
  ((atO data_41 k57 fun e58 => some e58)).bind fun y59 =>
  (idxN (data_41).length i_28).bind fun k60 =>
  ((atO data_41 k60 fun _ => some ((data_41).set k60 y56))).bind fun z62 =>
  (idxN (z62).length j_40).bind fun k63 =>
  ((atO z62 k63 fun _ => some ((z62).set k63 y59))).bind fun z65 =>
  (loopN (σ := (Int × Int × (List Int) × Unit)) (ρ := (Int × (List Int) × Unit)) (fun (i_66, j_67, data_68, _) =>
  (loopN (σ := (Int × (List Int) × Unit)) (ρ := (Int × (List Int) × Unit)) (fun (i_69, data_70, _) =>
  Option.bind (α := ((List Int) × Unit) ⊕ ((Int × (List Int) × Unit) ⊕ (Int × (List Int) × Unit))) (
  (bif ((decide (i_69 ≤ j_67)) == true) then ((idxN (data_70).length i_69).bind fun k71 =>
  ((atO data_70 k71 fun e72 => some e72)).bind fun y73 =>
  (idxN (data_70).length a_2).bind fun k74 =>
  ((atO data_70 k74 fun e75 => some e75)).bind fun y76 =>
  (e_memory_Best_1q_1q_q0 n_ (y73, y76, cmp_5.1, cmp_5.2.1, ())).bind fun (r77, _) =>
  (bif (decide (r77 < ((0) : Int))) then (
  some (.inl (data_70, ()))) else (
  some (.inr (.inr (i_69, data_70, ())))))) else (some (.inr (.inr (i_69, data_70, ())))))) fun q => match q with
  | .inl (data_78, _) => (
  some (.inl ((IntKind.i64.wrap (i_69 + ((1) : Int))), data_78, ())))
  | .inr r => some r) n_ (i_66, data_68, ())).bind fun (i_79, data_80, _) =>
  (loopN (σ := (Int × (List Int) × Unit)) (ρ := (Int × (List Int) × Unit)) (fun (j_81, data_82, _) =>
  Option.bind (α := ((List Int) × Unit) ⊕ ((Int × (List Int) × Unit) ⊕ (Int × (List Int) × Unit))) (
  (bif ((decide (i_79 ≤ j_81)) == true) then ((idxN (data_82).length j_81).bind fun k83 =>
  ((atO data_82 k83 fun e84 => some e84)).bind fun y85 =>
  (idxN (data_82).length a_2).bind fun k86 =>
  ((atO data_82 k86 fun e87 => some e87)).bind fun y88 =>
  (e_memory_Best_1q_1q_q0 n_ (y85, y88, cmp_5.1, cmp_5.2.1, ())).bind fun (r89, _) =>
  (bif (!(decide (r89 < ((0) : Int)))) then (
  some (.inl (data_82, ()))) else (
  some (.inr (.inr (j_81, data_82, ())))))) else (some (.inr (.inr (j_81, data_82, ())))))) fun q => match q with
  | .inl (data_90, _) => (
  some (.inl ((IntKind.i64.wrap (j_81 - ((1) : Int))), data_90, ())))
  | .inr r => some r) n_ (j_67, data_80, ())).bind fun (j_91, data_92, _) =>
  (bif (decide (i_79 > j_91)) then (
  some (.inr (j_91, data_92, ()))) else (
  (idxN (data_92).length j_91).bind fun k93 =>
  ((atO data_92 k93 fun e94 => some e94)).bind fun y95 =>
  (idxN (data_92).length i_79).bind fun k96 =>
  ((atO data_92 k96 fun e97 => some e97)).bind fun y98 =>
  (idxN (data_92).length i_79).bind fun k99 =>
  ((atO data_92 k99 fun _ => some ((data_92).set k99 y95))).bind fun z101 =>
  (idxN (z101).length j_91).bind fun k102 =>
  ((atO z101 k102 fun _ => some ((z101).set k102 y98))).bind fun z104 =>
  some (.inl ((IntKind.i64.wrap (i_79 + ((1) : Int))), (IntKind.i64.wrap (j_91 - ((1) : Int))), z104, ()))))) n_ ((IntKind.i64.wrap (i_28 + ((1) : Int))), (IntKind.i64.wrap (j_40 - ((1) : Int))), z65, ())).bind fun (j_105, data_106, _) =>
  (idxN (data_106).length a_2).bind fun k107 =>
  ((atO data_106 k107 fun e108 => some e108)).bind fun y109 =>
  (idxN (data_106).length j_105).bind fun k110 =>
  ((atO data_106 k110 fun e111 => some e111)).bind fun y112 =>
  (idxN (data_106).length j_105).bind fun k113 =>
  ((atO data_106 k113 fun _ => some ((data_106).set k113 y109))).bind fun z115 =>
  (idxN (z115).length a_2).bind fun k116 =>
  ((atO z115 k116 fun _ => some ((z115).set k116 y112))).bind fun z118 =>
  some (z118, j_105, false, ())))
set_option maxHeartbeats 4000000 in
theorem le_slices_partitionCmpFunc_int_mem (n_ : Nat) (a : ((List Int) × Int × Int × Int × ((Option (List Int)) × (Option (List Int)) × Unit) × Unit)) : Le (e_slices_partitionCmpFunc_int_mem n_ a) (d_slices_partitionCmpFunc_int_mem a) := by
  unfold e_slices_partitionCmpFunc_int_mem d_slices_partitionCmpFunc_int_mem
  repeat' (first | with_reducible exact Le.refl _ | with_reducible exact le_memory_Best_1q_1q_q0 _ _ | (with_reducible refine Le.bind ?_ (fun y => ?_)) | (with_reducible refine Le.bif ?_ ?_) | (with_reducible refine Le.loop (fun s => ?_) _ _) | (with_reducible refine Le.atO (fun e => ?_)) | split)
noncomputable def e_slices_pdqsortCmpFunc_int_memq_s (n_ : Nat) (f_ : ((List Int) × Int × Int × Int × ((Option (List Int)) × (Option (List Int)) × Unit) × Unit) → Option ((List Int) × Unit)) : ((List Int) × Int × Int × Int × ((Option (List Int)) × (Option (List Int)) × Unit) × Unit) → Option ((List Int) × Unit) := fun (data_1, a_2, b_3, limit_4, cmp_5, _) =>
  (loopN (σ := (Int × Int × Int × Bool × Bool × (List Int) × Unit)) (ρ := ((List Int) × Unit)) (fun (a_6, b_7, limit_8, wasBalanced_9, wasPartitioned_10, data_11, _) =>
  (bif (decide ((IntKind.i64.wrap (b_7 - a_6)) ≤ ((12) : Int))) then (
  (e_slices_insertionSortCmpFunc_int_mem n_ (data_11, a_6, b_7, (cmp_5.1, cmp_5.2.1, ()), ())).bind fun (m12, _) =>
  some (.inr (m12, ()))) else (
  (bif (limit_8 == ((0) : Int)) then (
  (e_slices_heapSortCmpFunc_int_mem n_ (data_11, a_6, b_7, (cmp_5.1, cmp_5.2.1, ()), ())).bind fun (m13, _) =>
  some (.inr (m13, ()))) else (
  Option.bind (α := (Int × (List Int) × Unit)) (
  (bif (!wasBalanced_9) then (
  (e_slices_breakPatternsCmpFunc_int_mem n_ (data_11, a_6, b_7, (cmp_5.1, cmp_5.2.1, ()), ())).bind fun (m14, _) =>
  some ((IntKind.i64.wrap (limit_8 - ((1) : Int))), m14, ())) else (
  some (limit_8, data_11, ())))) fun (limit_15, data_16, _) =>
  (e_slices_choosePivotCmpFunc_int_mem n_ (data_16, a_6, b_7, (cmp_5.1, cmp_5.2.1, ()), ())).bind fun (r17, r18, _) =>
  Option.bind (α := (Int × Int × (List Int) × Unit)) (
  (bif (r18 == ((2) : Int)) then (
  (e_slices_reverseRangeCmpFunc_int_mem n_ (data_16, a_6, b_7, (cmp_5.1, cmp_5.2.1, ()), ())).bind fun (m19, _) =>
  some ((IntKind.i64.wrap ((IntKind.i64.wrap (b_7 - ((1) : Int))) - (IntKind.i64.wrap (r17 - a_6)))), ((1) : Int), m19, ())) else (
  some (r17, r18, data_16, ())))) fun (pivot_20, hint_21, data_22, _) =>
  Option.bind (α := ((List Int) × Unit) ⊕ ((Int × Int × Int × Bool × Bool × (List Int) × Unit) ⊕ ((List Int) × Unit))) (
  Option.bind (α := (Bool × (List Int) × Unit)) (
  (bif (wasBalanced_9 == true) then ((bif (wasPartitioned_10 == true) then (some ((hint_21 == ((1) : Int)), data_22, ())) else (some (false, data_22, ())))) else (some (false, data_22, ())))) fun (s_23, data_24, _) =>
  (bif s_23 then (
  (e_slices_partialInsertionSortCmpFunc_int_mem n_ (data_24, a_6, b_7, (cmp_5.1, cmp_5.2.1, ()), ())).bind fun (m25, r26, _) =>
  (bif r26 then (
  some (.inr (.inr (m25, ())))) else (
  some (.inl (m25, ()))))) else (
  some (.inl (data_24, ()))))) fun q => match q with
  | .inl (data_27, _) => (
  Option.bind (α := (Int × (List Int) × Unit) ⊕ ((Int × Int × Int × Bool × Bool × (List Int) × Unit) ⊕ ((List Int) × Unit))) (
  Option.bind (α := (Bool × (List Int) × Unit)) (
  (bif ((decide (a_6 > ((0) : Int))) == true) then ((idxN (data_27).length (IntKind.i64.wrap (a_6 - ((1) : Int)))).bind fun k28 =>
  ((atO data_27 k28 fun e29 => some e29)).bind fun y30 =>
  (idxN (data_27).length pivot_20).bind fun k31 =>
  ((atO data_27 k31 fun e32 => some e32)).bind fun y33 =>
  (e_memory_Best_1q_1q_q0 n_ (y30, y33, cmp_5.1, cmp_5.2.1, ())).bind fun (r34, _) =>
  some ((!(decide (r34 < ((0) : Int)))), data_27, ())) else (some (false, data_27, ())))) fun (s_35, data_36, _) =>
  (bif s_35 then (
  (e_slices_partitionEqualCmpFunc_int_mem n_ (data_36, a_6, b_7, pivot_20, (cmp_5.1, cmp_5.2.1, ()), ())).bind fun (m37, r38, _) =>
  some (.inr (.inl (r38, b_7, limit_15, wasBalanced_9, wasPartitioned_10, m37, ())))) else (
  some (.inl (a_6, data_36, ()))))) fun q => match q with
  | .inl (a_39, data_40, _) => (
  (e_slices_partitionCmpFunc_int_mem n_ (data_40, a_39, b_7, pivot_20, (cmp_5.1, cmp_5.2.1, ()), ())).bind fun (m41, r42, r43, _) =>
  (quoO IntKind.i64 (IntKind.i64.wrap (b_7 - a_6)) ((8) : Int)).bind fun y44 =>
  (bif (decide ((IntKind.i64.wrap (r42 - a_39)) < (IntKind.i64.wrap (b_7 - r42)))) then (
  (f_ (m41, a_39, r42, limit_15, (cmp_5.1, cmp_5.2.1, ()), ())).bind fun (m45, _) =>
  some (.inl ((IntKind.i64.wrap (r42 + ((1) : Int))), b_7, limit_15, (decide ((IntKind.i64.wrap (r42 - a_39)) ≥ y44)), r43, m45, ()))) else (
  (f_ (m41, (IntKind.i64.wrap (r42 + ((1) : Int))), b_7, limit_15, (cmp_5.1, cmp_5.2.1, ()), ())).bind fun (m46, _) =>
  some (.inl (a_39, r42, limit_15, (decide ((IntKind.i64.wrap (b_7 - r42)) ≥ y44)), r43, m46, ())))))
  | .inr r => some r)
  | .inr r => some r))))) n_ (a_2, b_3, limit_4, true, true, data_1, ())).bind some
set_option maxHeartbeats 4000000 in
theorem le_slices_pdqsortCmpFunc_int_memq_s (n_ : Nat) (f_ fb_ : ((List Int) × Int × Int × Int × ((Option (List Int)) × (Option (List Int)) × Unit) × Unit) → Option ((List Int) × Unit)) (h_ : ∀ a, Le (f_ a) (fb_ a)) (a : ((List Int) × Int × Int × Int × ((Option (List Int)) × (Option (List Int)) × Unit) × Unit)) : Le (e_slices_pdqsortCmpFunc_int_memq_s n_ f_ a) (r_slices_pdqsortCmpFunc_int_memq_s fb_ a) := by
  unfold e_slices_pdqsortCmpFunc_int_memq_s r_slices_pdqsortCmpFunc_int_memq_s
  repeat' (first | with_reducible exact Le.refl _ | with_reducible exact le_memory_Best_1q_1q_q0 _ _ | with_reducible exact le_slices_insertionSortCmpFunc_int_mem _ _ | with_reducible exact le_slices_heapSortCmpFunc_int_mem _ _ | with_reducible exact le_slices_breakPatternsCmpFunc_int_mem _ _ | with_reducible exact le_slices_choosePivotCmpFunc_int_mem _ _ | with_reducible exact le_slices_reverseRangeCmpFunc_int_mem _ _ | with_reducible exact le_slices_partialInsertionSortCmpFunc_int_mem _ _ | with_reducible exact le_slices_partitionEqualCmpFunc_int_mem _ _ | with_reducible exact le_slices_partitionCmpFunc_int_mem _ _ | with_reducible exact h_ _ | (with_reducible refine Le.bind ?_ (fun y => ?_)) | (with_reducible refine Le.bif ?_ ?_) | (with_reducible refine Le.loop (fun s => ?_) _ _) | (with_reducible refine Le.atO (fun e => ?_)) | split)
noncomputable def e_slices_pdqsortCmpFunc_int_mem (n_ : Nat) : ((List Int) × Int × Int × Int × ((Option (List Int)) × (Option (List Int)) × Unit) × Unit) → Option ((List Int) × Unit) := deep (e_slices_pdqsortCmpFunc_int_memq_s n_) n_
theorem le_slices_pdqsortCmpFunc_int_mem (n_ : Nat) (a : ((List Int) × Int × Int × Int × ((Option (List Int)) × (Option (List Int)) × Unit) × Unit)) : Le (e_slices_pdqsortCmpFunc_int_mem n_ a) (d_slices_pdqsortCmpFunc_int_mem a) := Le.deep (le_slices_pdqsortCmpFunc_int_memq_s n_) r_slices_pdqsortCmpFunc_int_memq_mono n_ a
noncomputable def e_slices_SortFunc_int_int_mem (n_ : Nat) : ((List Int) × ((Option (List Int)) × (Option (List Int)) × Unit) × Unit) → Option ((List Int) × Unit) := fun (x_1, cmp_2, _) =>
  (e_math_bits_Len n_ ((IntKind.u64.wrap (((x_1).length : Nat) : Int)), ())).bind fun (r3, _) =>
  (e_slices_pdqsortCmpFunc_int_mem n_ (x_1, ((0) : Int), (((x_1).length : Nat) : Int), r3, (cmp_2.1, cmp_2.2.1, ()), ())).bind fun (m4, _) =>
  some (m4, ())
set_option maxHeartbeats 4000000 in
theorem le_slices_SortFunc_int_int_mem (n_ : Nat) (a : ((List Int) × ((Option (List Int)) × (Option (List Int)) × Unit) × Unit)) : Le (e_slices_SortFunc_int_int_mem n_ a) (d_slices_SortFunc_int_int_mem a) := by
  unfold e_slices_SortFunc_int_int_mem d_slices_SortFunc_int_int_mem
  repeat' (first | with_reducible exact Le.refl _ | with_reducible exact le_slices_pdqsortCmpFunc_int_mem _ _ | with_reducible exact le_math_bits_Len _ _ | (with_reducible refine Le.bind ?_ (fun y => ?_)) | (with_reducible refine Le.bif ?_ ?_) | (with_reducible refine Le.loop (fun s => ?_) _ _) | (with_reducible refine Le.atO (fun e => ?_)) | split)
noncomputable def e_memory_Best_1q_q0 (n_ : Nat) : ((List Int) × (Option (List Int)) × (Option (List Int)) × Unit) → Option ((List Int) × Unit) := fun (set_1, p_2, p_3, _) =>
  (e_slices_SortFunc_int_int_mem n_ (set_1, (p_2, p_3, ()), ())).bind fun (m4, _) =>
  some (m4, ())
set_option maxHeartbeats 4000000 in
theorem le_memory_Best_1q_q0 (n_ : Nat) (a : ((List Int) × (Option (List Int)) × (Option (List Int)) × Unit)) : Le (e_memory_Best_1q_q0 n_ a) (d_memory_Best_1q_q0 a) := by
  unfold e_memory_Best_1q_q0 d_memory_Best_1q_q0
  repeat' (first | with_reducible exact Le.refl _ | with_reducible exact le_slices_SortFunc_int_int_mem _ _ | (with_reducible refine Le.bind ?_ (fun y => ?_)) | (with_reducible refine Le.bif ?_ ?_) | (with_reducible refine Le.loop (fun s => ?_) _ _) | (with_reducible refine Le.atO (fun e => ?_)) | split)
noncomputable def e_memory_Best_2q_q0q_s (n_ : Nat) (f_ : (Int × (Option (List (List Int))) × Unit × (List Int) × Unit) → Option ((List Int) × Unit)) : (Int × (Option (List (List Int))) × Unit × (List Int) × Unit) → Option ((List Int) × Unit) := fun (i_1, p_2, _, p_4, _) =>
  (p_2).bind fun y5 =>
  (getI y5 i_1).bind fun y6 =>
  (loopN (σ := (Int × (List Int) × Unit)) (ρ := ((List Int) × Unit)) (fun (s_7, s_8, _) =>
  (bif (decide (s_7 < (((y6).length : Nat) : Int))) then (
  (getI y6 s_7).bind fun y9 =>
  (f_ (y9, p_2, (), s_8, ())).bind fun (m10, _) =>
  some (.inl ((IntKind.i64.wrap (s_7 + ((1) : Int))), m10, ()))) else (
  some (.inr (s_8, ()))))) n_ (((0) : Int), p_4, ())).bind fun (s_11, _) =>
  (limO ((s_11).length + ([i_1]).length)).bind fun _ =>
  some ((s_11 ++ [i_1]), ())
set_option maxHeartbeats 4000000 in
theorem le_memory_Best_2q_q0q_s (n_ : Nat) (f_ fb_ : (Int × (Option (List (List Int))) × Unit × (List Int) × Unit) → Option ((List Int) × Unit)) (h_ : ∀ a, Le (f_ a) (fb_ a)) (a : (Int × (Option (List (List Int))) × Unit × (List Int) × Unit)) : Le (e_memory_Best_2q_q0q_s n_ f_ a) (r_memory_Best_2q_q0q_s fb_ a) := by
  unfold e_memory_Best_2q_q0q_s r_memory_Best_2q_q0q_s
  repeat' (first | with_reducible exact Le.refl _  | with_reducible exact h_ _ | (with_reducible refine Le.bind ?_ (fun y => ?_)) | (with_reducible refine Le.bif ?_ ?_) | (with_reducible refine Le.loop (fun s => ?_) _ _) | (with_reducible refine Le.atO (fun e => ?_)) | split)
noncomputable def e_memory_Best_2q_q0 (n_ : Nat) : (Int × (Option (List (List Int))) × Unit × (List Int) × Unit) → Option ((List Int) × Unit) := deep (e_memory_Best_2q_q0q_s n_) n_
theorem le_memory_Best_2q_q0 (n_ : Nat) (a : (Int × (Option (List (List Int))) × Unit × (List Int) × Unit)) : Le (e_memory_Best_2q_q0 n_ a) (d_memory_Best_2q_q0 a) := Le.deep (le_memory_Best_2q_q0q_s n_) r_memory_Best_2q_q0q_mono n_ a
noncomputable def e_memory_Best (n_ : Nat) : ((List (Int × (Int × ((List Int) × (Int × Unit))))) × Unit) → Option (((List Int) × ((List Int) × ((List Int) × Unit))) × Int × Unit) := fun (l_1, _) =>
  (e_memory_proper n_ (l_1, ())).bind fun (r164, _) =>
  (bif (!r164) then (
  some ((([] : (List Int)), (([] : (List Int)), (([] : (List Int)), ()))), ((211) : Int), ())) else (
  (e_memory_sizes n_ (l_1, ())).bind fun (r165, r166, _) =>
  (e_memory_children n_ (l_1, ())).bind fun (r167, r168, _) =>
  (madeO (((l_1).length : Nat) : Int) (((l_1).length : Nat) : Int)).bind fun n169 =>
  (loopN (σ := (Int × ((List Int) × ((List Int) × ((List Int) × Unit))) × (List Int) × (List (List Int)) × (List Int) × (List Int) × Unit)) (ρ := (((List Int) × ((List Int) × ((List Int) × Unit))) × (List Int) × (List (List Int)) × (List Int) × (List Int) × Unit)) (fun (s_170, s_171, keep_172, kids_173, roots_174, peak_175, _) =>
  (bif (decide (s_170 < (((l_1).length : Nat) : Int))) then (
  (idxN (kids_173).length s_170).bind fun k176 =>
  ((atO kids_173 k176 fun e178 => some e178)).bind fun y179 =>
  (e_memory_Best_1q_q0 n_ (y179, (some peak_175), (some keep_172), ())).bind fun (m180, _) =>
  ((atO kids_173 k176 fun _ => some ((kids_173).set k176 m180))).bind fun z182 =>
  (idxN (z182).length s_170).bind fun k183 =>
  ((atO z182 k183 fun e185 => some e185)).bind fun xs186 =>
  (loopN (σ := (Int × Nat × Int × ((List Int) × ((List Int) × ((List Int) × Unit))) × (List Int) × (List (List Int)) × (List Int) × (List Int) × Unit)) (ρ := (Int × ((List Int) × ((List Int) × ((List Int) × Unit))) × (List Int) × (List (List Int)) × (List Int) × (List Int) × Unit)) (fun (before_187, s_188, s_189, s_190, keep_191, kids_192, roots_193, peak_194, _) =>
  (bif (decide (s_189 < (((xs186).length : Nat) : Int))) then (
  (((atO kids_192 s_188 fun e195 => some e195)).bind fun e196 => idxN (e196).length s_189).bind fun k197 =>
  ((atO kids_192 s_188 fun e198 => (atO e198 k197 fun e199 => some e199))).bind fun y200 =>
  (idxN (peak_194).length s_170).bind fun k201 =>
  ((atO peak_194 k201 fun e202 => some e202)).bind fun y203 =>
  (idxN (peak_194).length y200).bind fun k204 =>
  ((atO peak_194 k204 fun e205 => some e205)).bind fun y206 =>
  (idxN (peak_194).length s_170).bind fun k207 =>
  ((atO peak_194 k207 fun _ => some ((peak_194).set k207 (if (IntKind.i64.wrap (before_187 + y206)) > y203 then (IntKind.i64.wrap (before_187 + y206)) else y203)))).bind fun z209 =>
  (getI keep_191 y200).bind fun y210 =>
  some (.inl ((IntKind.i64.wrap (before_187 + y210)), s_188, (IntKind.i64.wrap (s_189 + ((1) : Int))), s_190, keep_191, kids_192, roots_193, z209, ()))) else (
  some (.inr (before_187, s_190, keep_191, kids_192, roots_193, peak_194, ()))))) n_ (((0) : Int), k183, ((0) : Int), s_171, keep_172, z182, roots_174, peak_175, ())).bind fun (before_211, s_212, keep_213, kids_214, roots_215, peak_216, _) =>
  (idxN (peak_216).length s_170).bind fun k217 =>
  ((atO peak_216 k217 fun e218 => some e218)).bind fun y219 =>
  (getI r165 s_170).bind fun y220 =>
  (idxN (peak_216).length s_170).bind fun k221 =>
  ((atO peak_216 k221 fun _ => some ((peak_216).set k221 (if (IntKind.i64.wrap (before_211 + y220)) > y219 then (IntKind.i64.wrap (before_211 + y220)) else y219)))).bind fun z223 =>
  some (.inl ((IntKind.i64.wrap (s_170 + ((1) : Int))), s_212, keep_213, kids_214, roots_215, z223, ()))) else (
  some (.inr (s_171, keep_172, kids_173, roots_174, peak_175, ()))))) n_ (((0) : Int), ([], ([], ([], ()))), r166, r167, r168, (List.replicate n169 (0 : Int)), ())).bind fun (s_224, keep_225, kids_226, roots_227, peak_228, _) =>
  (e_memory_Best_1q_q0 n_ (roots_227, (some peak_228), (some keep_225), ())).bind fun (m229, _) =>
  (loopN (σ := (Int × ((List Int) × ((List Int) × ((List Int) × Unit))) × (List Int) × (List (List Int)) × (List Int) × (List Int) × (List Int) × Unit)) (ρ := (((List Int) × ((List Int) × ((List Int) × Unit))) × (List Int) × (List Int) × (List Int) × Unit)) (fun (s_230, s_231, keep_232, kids_233, roots_234, peak_235, order_236, _) =>
  (bif (decide (s_230 < (((m229).length : Nat) : Int))) then (
  (idxN (roots_234).length s_230).bind fun k237 =>
  ((atO roots_234 k237 fun e238 => some e238)).bind fun y239 =>
  (e_memory_Best_2q_q0 n_ (y239, (some kids_233), (), order_236, ())).bind fun (m240, _) =>
  some (.inl ((IntKind.i64.wrap (s_230 + ((1) : Int))), s_231, keep_232, kids_233, roots_234, peak_235, m240, ()))) else (
  some (.inr (s_231, keep_232, peak_235, order_236, ()))))) n_ (((0) : Int), s_224, keep_225, kids_226, m229, peak_228, [], ())).bind fun (_, keep_242, peak_243, order_244, _) =>
  some ((order_244, (peak_243, (keep_242, ()))), ((0) : Int), ())))
set_option maxHeartbeats 4000000 in
theorem le_memory_Best (n_ : Nat) (a : ((List (Int × (Int × ((List Int) × (Int × Unit))))) × Unit)) : Le (e_memory_Best n_ a) (d_memory_Best a) := by
  unfold e_memory_Best d_memory_Best
  repeat' (first | with_reducible exact Le.refl _ | with_reducible exact le_memory_Best_1q_q0 _ _ | with_reducible exact le_memory_Best_2q_q0 _ _ | with_reducible exact le_memory_proper _ _ | with_reducible exact le_memory_sizes _ _ | with_reducible exact le_memory_children _ _ | (with_reducible refine Le.bind ?_ (fun y => ?_)) | (with_reducible refine Le.bif ?_ ?_) | (with_reducible refine Le.loop (fun s => ?_) _ _) | (with_reducible refine Le.atO (fun e => ?_)) | split)
noncomputable def e_memory_permutation (n_ : Nat) : ((List Int) × Unit) → Option (Bool × Unit) := fun (order_1, _) =>
  (madeO (((order_1).length : Nat) : Int) (((order_1).length : Nat) : Int)).bind fun n2 =>
  (loopN (σ := (Int × (List Bool) × Unit)) (ρ := (Unit ⊕ (Bool × Unit))) (fun (s_3, seen_4, _) =>
  (bif (decide (s_3 < (((order_1).length : Nat) : Int))) then (
  Option.bind (α := ((List Bool) × Unit) ⊕ ((Int × (List Bool) × Unit) ⊕ (Unit ⊕ (Bool × Unit)))) (
  (getI order_1 s_3).bind fun y5 =>
  Option.bind (α := ((List Bool) × Unit) ⊕ (((List Bool) × Unit) ⊕ ((Int × (List Bool) × Unit) ⊕ (Unit ⊕ (Bool × Unit))))) (
  (bif ((decide (y5 < ((0) : Int))) == false) then ((bif ((decide (y5 ≥ (((order_1).length : Nat) : Int))) == false) then ((idxN (seen_4).length y5).bind fun k6 =>
  ((atO seen_4 k6 fun e7 => some e7)).bind fun y8 =>
  (bif y8 then (
  some (.inr (.inr (.inr (.inr (false, ())))))) else (
  some (.inl (seen_4, ()))))) else (some (.inr (.inr (.inr (.inr (false, ())))))))) else (some (.inr (.inr (.inr (.inr (false, ())))))))) fun q => match q with
  | .inl (seen_9, _) => (
  (idxN (seen_9).length y5).bind fun k10 =>
  ((atO seen_9 k10 fun _ => some ((seen_9).set k10 true))).bind fun z12 =>
  some (.inl (z12, ())))
  | .inr r => some r) fun q => match q with
  | .inl (seen_13, _) => (
  some (.inl ((IntKind.i64.wrap (s_3 + ((1) : Int))), seen_13, ())))
  | .inr r => some r) else (
  some (.inr (.inl ()))))) n_ (((0) : Int), (List.replicate n2 false), ())).bind fun q => match q with
  | .inl _ => (
  some (true, ()))
  | .inr r => some r
set_option maxHeartbeats 4000000 in
theorem le_memory_permutation (n_ : Nat) (a : ((List Int) × Unit)) : Le (e_memory_permutation n_ a) (d_memory_permutation a) := by
  unfold e_memory_permutation d_memory_permutation
  repeat' (first | with_reducible exact Le.refl _  | (with_reducible refine Le.bind ?_ (fun y => ?_)) | (with_reducible refine Le.bif ?_ ?_) | (with_reducible refine Le.loop (fun s => ?_) _ _) | (with_reducible refine Le.atO (fun e => ?_)) | split)
noncomputable def e_memory_processing (n_ : Nat) : ((List (Int × (Int × ((List Int) × (Int × Unit))))) × (List Int) × Unit) → Option (Bool × Unit) := fun (l_1, order_2, _) =>
  (madeO (((l_1).length : Nat) : Int) (((l_1).length : Nat) : Int)).bind fun n35 =>
  (madeO (((l_1).length : Nat) : Int) (((l_1).length : Nat) : Int)).bind fun n36 =>
  (madeO (((l_1).length : Nat) : Int) (((l_1).length : Nat) : Int)).bind fun n37 =>
  (loopN (σ := (Int × (List Int) × (List Int) × (List Int) × Unit)) (ρ := ((List Int) × (List Int) × (List Int) × Unit)) (fun (s_38, count_39, first_40, at_41, _) =>
  (bif (decide (s_38 < (((order_2).length : Nat) : Int))) then (
  (getI order_2 s_38).bind fun y42 =>
  (idxN (at_41).length y42).bind fun k43 =>
  ((atO at_41 k43 fun _ => some ((at_41).set k43 s_38))).bind fun z45 =>
  some (.inl ((IntKind.i64.wrap (s_38 + ((1) : Int))), count_39, first_40, z45, ()))) else (
  some (.inr (count_39, first_40, at_41, ()))))) n_ (((0) : Int), (List.replicate n35 (0 : Int)), (List.replicate n36 (0 : Int)), (List.replicate n37 (0 : Int)), ())).bind fun (count_46, first_47, at_48, _) =>
  (loopN (σ := (Int × (List Int) × (List Int) × (List Int) × Unit)) (ρ := ((List Int) × (List Int) × (List Int) × Unit)) (fun (s_49, count_50, first_51, at_52, _) =>
  (bif (decide (s_49 < (((l_1).length : Nat) : Int))) then (
  (idxN (at_52).length s_49).bind fun k53 =>
  ((atO at_52 k53 fun e54 => some e54)).bind fun y55 =>
  (idxN (first_51).length s_49).bind fun k56 =>
  ((atO first_51 k56 fun _ => some ((first_51).set k56 y55))).bind fun z58 =>
  some (.inl ((IntKind.i64.wrap (s_49 + ((1) : Int))), count_50, z58, at_52, ()))) else (
  some (.inr (count_50, first_51, at_52, ()))))) n_ (((0) : Int), count_46, first_47, at_48, ())).bind fun (count_59, first_60, at_61, _) =>
  (loopN (σ := (Int × (List Int) × (List Int) × (List Int) × Unit)) (ρ := (((List Int) × (List Int) × (List Int) × Unit) ⊕ (Bool × Unit))) (fun (s_62, count_63, first_64, at_65, _) =>
  (bif (decide (s_62 < (((l_1).length : Nat) : Int))) then (
  Option.bind (α := ((List Int) × (List Int) × (List Int) × Unit) ⊕ ((Int × (List Int) × (List Int) × (List Int) × Unit) ⊕ (((List Int) × (List Int) × (List Int) × Unit) ⊕ (Bool × Unit)))) (
  (getI l_1 s_62).bind fun y66 =>
  (idxN (count_63).length s_62).bind fun k67 =>
  ((atO count_63 k67 fun e68 => some e68)).bind fun y69 =>
  (idxN (count_63).length s_62).bind fun k70 =>
  ((atO count_63 k70 fun _ => some ((count_63).set k70 (IntKind.i64.wrap (y69 + ((1) : Int)))))).bind fun z72 =>
  (bif (decide (y66.2.2.2.1 ≥ ((0) : Int))) then (
  (idxN (at_65).length y66.2.2.2.1).bind fun k73 =>
  ((atO at_65 k73 fun e74 => some e74)).bind fun y75 =>
  (idxN (at_65).length s_62).bind fun k76 =>
  ((atO at_65 k76 fun e77 => some e77)).bind fun y78 =>
  (bif (decide (y75 < y78)) then (
  some (.inr (.inr (.inr (false, ()))))) else (
  (idxN (z72).length y66.2.2.2.1).bind fun k79 =>
  ((atO z72 k79 fun e80 => some e80)).bind fun y81 =>
  (idxN (z72).length s_62).bind fun k82 =>
  ((atO z72 k82 fun e83 => some e83)).bind fun y84 =>
  (idxN (z72).length y66.2.2.2.1).bind fun k85 =>
  ((atO z72 k85 fun _ => some ((z72).set k85 (IntKind.i64.wrap (y81 + y84))))).bind fun z87 =>
  (idxN (first_64).length y66.2.2.2.1).bind fun k88 =>
  ((atO first_64 k88 fun e89 => some e89)).bind fun y90 =>
  (idxN (first_64).length s_62).bind fun k91 =>
  ((atO first_64 k91 fun e92 => some e92)).bind fun y93 =>
  (idxN (first_64).length y66.2.2.2.1).bind fun k94 =>
  ((atO first_64 k94 fun _ => some ((first_64).set k94 (if y93 < y90 then y93 else y90)))).bind fun z96 =>
  some (.inl (z87, z96, at_65, ()))))) else (
  some (.inl (z72, first_64, at_65, ()))))) fun q => match q with
  | .inl (count_97, first_98, at_99, _) => (
  some (.inl ((IntKind.i64.wrap (s_62 + ((1) : Int))), count_97, first_98, at_99, ())))
  | .inr r => some r) else (
  some (.inr (.inl (count_63, first_64, at_65, ())))))) n_ (((0) : Int), count_59, first_60, at_61, ())).bind fun q => match q with
  | .inl (count_100, first_101, at_102, _) => (
  (loopN (σ := (Int × (List Int) × (List Int) × (List Int) × Unit)) (ρ := (Unit ⊕ (Bool × Unit))) (fun (s_103, count_104, first_105, at_106, _) =>
  (bif (decide (s_103 < (((l_1).length : Nat) : Int))) then (
  (idxN (at_106).length s_103).bind fun k107 =>
  ((atO at_106 k107 fun e108 => some e108)).bind fun y109 =>
  (idxN (first_105).length s_103).bind fun k110 =>
  ((atO first_105 k110 fun e111 => some e111)).bind fun y112 =>
  (idxN (count_104).length s_103).bind fun k113 =>
  ((atO count_104 k113 fun e114 => some e114)).bind fun y115 =>
  (bif ((IntKind.i64.wrap ((IntKind.i64.wrap (y109 - y112)) + ((1) : Int))) != y115) then (
  some (.inr (.inr (false, ())))) else (
  some (.inl ((IntKind.i64.wrap (s_103 + ((1) : Int))), count_104, first_105, at_106, ()))))) else (
  some (.inr (.inl ()))))) n_ (((0) : Int), count_100, first_101, at_102, ())).bind fun q => match q with
  | .inl _ => (
  some (true, ()))
  | .inr r => some r)
  | .inr r => some r
set_option maxHeartbeats 4000000 in
theorem le_memory_processing (n_ : Nat) (a : ((List (Int × (Int × ((List Int) × (Int × Unit))))) × (List Int) × Unit)) : Le (e_memory_processing n_ a) (d_memory_processing a) := by
  unfold e_memory_processing d_memory_processing
  repeat' (first | with_reducible exact Le.refl _  | (with_reducible refine Le.bind ?_ (fun y => ?_)) | (with_reducible refine Le.bif ?_ ?_) | (with_reducible refine Le.loop (fun s => ?_) _ _) | (with_reducible refine Le.atO (fun e => ?_)) | split)
noncomputable def e_memory_Simulate (n_ : Nat) : ((List (Int × (Int × ((List Int) × (Int × Unit))))) × (List Int) × Unit) → Option (Int × Int × Unit) := fun (l_1, order_2, _) =>
  (e_memory_proper n_ (l_1, ())).bind fun (r3, _) =>
  (bif (!r3) then (
  some (((0) : Int), ((211) : Int), ())) else (
  (bif ((((order_2).length : Nat) : Int) != (((l_1).length : Nat) : Int)) then (
  some (((0) : Int), ((2) : Int), ())) else (
  (e_memory_permutation n_ (order_2, ())).bind fun (r4, _) =>
  (bif (!r4) then (
  some (((0) : Int), ((90) : Int), ())) else (
  (e_memory_processing n_ (l_1, order_2, ())).bind fun (r5, _) =>
  (bif (!r5) then (
  some (((0) : Int), ((210) : Int), ())) else (
  (e_memory_sizes n_ (l_1, ())).bind fun (r6, r7, _) =>
  (e_memory_children n_ (l_1, ())).bind fun (r8, _, _) =>
  (loopN (σ := (Int × Int × Int × Unit)) (ρ := (Int × Unit)) (fun (stack_10, peak_11, s_12, _) =>
  (bif (decide (s_12 < (((order_2).length : Nat) : Int))) then (
  (getI order_2 s_12).bind fun y13 =>
  (getI r6 y13).bind fun y14 =>
  (getI r8 y13).bind fun y15 =>
  (loopN (σ := (Int × Int × Unit)) (ρ := (Int × Unit)) (fun (stack_16, s_17, _) =>
  (bif (decide (s_17 < (((y15).length : Nat) : Int))) then (
  (getI y15 s_17).bind fun y18 =>
  (getI r7 y18).bind fun y19 =>
  some (.inl ((IntKind.i64.wrap (stack_16 - y19)), (IntKind.i64.wrap (s_17 + ((1) : Int))), ()))) else (
  some (.inr (stack_16, ()))))) n_ (stack_10, ((0) : Int), ())).bind fun (stack_20, _) =>
  (getI r7 y13).bind fun y21 =>
  some (.inl ((IntKind.i64.wrap (stack_20 + y21)), (if (IntKind.i64.wrap (stack_10 + y14)) > peak_11 then (IntKind.i64.wrap (stack_10 + y14)) else peak_11), (IntKind.i64.wrap (s_12 + ((1) : Int))), ()))) else (
  some (.inr (peak_11, ()))))) n_ (((0) : Int), ((0) : Int), ((0) : Int), ())).bind fun (peak_22, _) =>
  some (peak_22, ((0) : Int), ())))))))))
set_option maxHeartbeats 4000000 in
theorem le_memory_Simulate (n_ : Nat) (a : ((List (Int × (Int × ((List Int) × (Int × Unit))))) × (List Int) × Unit)) : Le (e_memory_Simulate n_ a) (d_memory_Simulate a) := by
  unfold e_memory_Simulate d_memory_Simulate
  repeat' (first | with_reducible exact Le.refl _ | with_reducible exact le_memory_proper _ _ | with_reducible exact le_memory_permutation _ _ | with_reducible exact le_memory_processing _ _ | with_reducible exact le_memory_sizes _ _ | with_reducible exact le_memory_children _ _ | (with_reducible refine Le.bind ?_ (fun y => ?_)) | (with_reducible refine Le.bif ?_ ?_) | (with_reducible refine Le.loop (fun s => ?_) _ _) | (with_reducible refine Le.atO (fun e => ?_)) | split)
noncomputable def e_sparselaw22q_awake (n_ : Nat) : Unit → Option (Bool × Unit) := fun _ =>
  (e_memory_Best n_ ([(((0) : Int), (((1) : Int), ([((0) : Int), ((1) : Int), ((2) : Int)], (((2) : Int), ())))), (((1) : Int), (((2) : Int), ([((1) : Int), ((2) : Int)], (((2) : Int), ())))), (((2) : Int), (((4) : Int), ([((2) : Int), ((3) : Int)], ((-1 : Int), ()))))], ())).bind fun (r1, r2, _) =>
  (e_memory_Simulate n_ ([(((0) : Int), (((1) : Int), ([((0) : Int), ((1) : Int), ((2) : Int)], (((2) : Int), ())))), (((1) : Int), (((2) : Int), ([((1) : Int), ((2) : Int)], (((2) : Int), ())))), (((2) : Int), (((4) : Int), ([((2) : Int), ((3) : Int)], ((-1 : Int), ()))))], [((1) : Int), ((0) : Int), ((2) : Int)], ())).bind fun (r3, r4, _) =>
  (bif ((r2 == ((0) : Int)) == true) then ((bif ((r4 == ((0) : Int)) == true) then ((e_sparsekit_Ints n_ (r1.1, [((0) : Int), ((1) : Int), ((2) : Int)], ())).bind fun (r5, _) =>
  (bif (r5 == true) then ((bif (((((r1.2.1).length : Nat) : Int) == ((3) : Int)) == true) then ((getI r1.2.1 ((2) : Int)).bind fun y6 =>
  (bif ((y6 == ((7) : Int)) == true) then (some ((r3 == ((7) : Int)), ())) else (some (false, ())))) else (some (false, ())))) else (some (false, ())))) else (some (false, ())))) else (some (false, ())))
set_option maxHeartbeats 4000000 in
theorem le_sparselaw22q_awake (n_ : Nat) (a : Unit) : Le (e_sparselaw22q_awake n_ a) (d_sparselaw22q_awake a) := by
  unfold e_sparselaw22q_awake d_sparselaw22q_awake
  repeat' (first | with_reducible exact Le.refl _ | with_reducible exact le_memory_Simulate _ _ | with_reducible exact le_memory_Best _ _ | with_reducible exact le_sparsekit_Ints _ _ | (with_reducible refine Le.bind ?_ (fun y => ?_)) | (with_reducible refine Le.bif ?_ ?_) | (with_reducible refine Le.loop (fun s => ?_) _ _) | (with_reducible refine Le.atO (fun e => ?_)) | split)
theorem awake22 : d_sparselaw22q_awake () = some (true, ()) := le_sparselaw22q_awake 20 () _ (by decide +kernel)
end Go.Fw
end

section
namespace Go.Fw
set_option linter.unusedSimpArgs false
set_option linter.unusedVariables false
open Go
def InR (x : FrT) : Prop := (-9223372036854775808 ≤ x.1 ∧ x.1 ≤ 9223372036854775807) ∧ (-9223372036854775808 ≤ x.2.1 ∧ x.2.1 ≤ 9223372036854775807)
def PrpI (n i : Nat) (x : FrT) : Prop := x.2.2.1.length ≤ 200 ∧ x.1 < x.2.1 ∧ x.2.1 - x.1 ≤ (x.2.2.1.length : Int) ∧ (x.2.2.2.1 = -1 ∨ ((i : Int) < x.2.2.2.1 ∧ x.2.2.2.1 < (n : Int)))
def Prp (l : List FrT) : Prop := l.length ≤ 200 ∧ ∀ i, (h : i < l.length) → PrpI l.length i l[i]
section
variable {l : List FrT} (hr : ∀ x ∈ l, InR x) (hc : ∀ x ∈ l, x.2.2.1.length < 4611686018427387904)
include hr hc
open Classical in
theorem proper_eq : d_memory_proper (l, ()) = some (decide (Prp l), ()) := by
  unfold d_memory_proper
  simp only [cond_dec]
  by_cases hl : ((l.length : Nat) : Int) > 200
  · rw [if_pos hl, decF (fun h : Prp l => by have := h.1; omega)]
  rw [if_neg hl, ← Ok.eq_iff]
  refine Ok.bind_of (P := fun q => match q with | .inl _ => Prp l | .inr r => r = (false, ()) ∧ ¬ Prp l) ?_ ?_
  · refine Ok.for l.length (fun i _ => ∀ j, (h : j < l.length) → j < i → PrpI l.length j l[j]) (i0 := 0) rfl (fun j _ h => by omega) (Nat.zero_le _) ?_ ?_
    · rintro i ⟨⟩ _ hi hI
      have hg : getI l (i : Int) = some l[i] := getN_some (List.getElem?_eq_getElem hi)
      obtain ⟨⟨r1, r2⟩, r3, r4⟩ := hr _ (List.getElem_mem hi)
      have hcl := hc _ (List.getElem_mem hi)
      generalize hx : l[i] = x at *
      have bad : ¬ PrpI l.length i x → ¬ Prp l := fun h hp => h (hx ▸ hp.2 i hi)
      simp (disch := omega) only [if_pos, hg, Option.bind_some, cond_dec_beqF, cond_dec_beq, bneI, wrap_inc]
      by_cases c1 : ((x.2.2.1.length : Nat) : Int) > 200
      · rw [if_pos c1]; exact Ok.some_iff.2 ⟨rfl, bad fun h => by have := h.1; omega⟩
      rw [if_neg c1]
      by_cases c2 : x.2.1 ≤ x.1
      · rw [if_pos c2]; exact Ok.some_iff.2 ⟨rfl, bad fun h => by have := h.2.1; omega⟩
      rw [if_neg c2]
      by_cases c3 : IntKind.i64.wrap (x.2.1 - x.1) < 1
      · rw [if_pos c3]
        refine Ok.some_iff.2 ⟨rfl, bad fun h => ?_⟩
        have h3 := h.2.2.1
        rw [wrap64 (by omega) (by omega)] at c3
        omega
      rw [if_neg c3]
      by_cases c4 : IntKind.i64.wrap (x.2.1 - x.1) > ((x.2.2.1.length : Nat) : Int)
      · rw [if_pos c4]
        refine Ok.some_iff.2 ⟨rfl, bad fun h => ?_⟩
        have h3 := h.2.2.1
        rw [wrap64 (by omega) (by omega)] at c4
        omega
      rw [if_neg c4]
      have hd : x.2.1 - x.1 ≤ (x.2.2.1.length : Int) := by
        rw [wrap64q_eq] at c3 c4
        split at c3 <;> split at c4 <;> omega
      simp only [Option.bind_some]
      by_cases c5 : x.2.2.2.1 = -1
      · rw [decT c5]
        refine Ok.some_iff.2 ⟨rfl, fun j hj hji => ?_⟩
        by_cases e : j = i
        · subst e; rw [hx]; exact ⟨by omega, by omega, hd, .inl c5⟩
        · exact hI j hj (by omega)
      rw [decF c5]
      simp only [Bool.not_false, beq_self_eq_true, cond_true]
      by_cases c6 : x.2.2.2.1 ≤ (i : Int)
      · rw [if_pos c6]
        exact Ok.some_iff.2 ⟨rfl, bad fun h => by have := h.2.2.2; omega⟩
      rw [if_neg c6]
      by_cases c7 : x.2.2.2.1 ≥ ((l.length : Nat) : Int)
      · rw [if_pos c7]
        exact Ok.some_iff.2 ⟨rfl, bad fun h => by have := h.2.2.2; omega⟩
      rw [if_neg c7]
      refine Ok.some_iff.2 ⟨rfl, fun j hj hji => ?_⟩
      by_cases e : j = i
      · subst e; rw [hx]; exact ⟨by omega, by omega, hd, .inr ⟨by omega, by omega⟩⟩
      · exact hI j hj (by omega)
    · rintro ⟨⟩ hI
      simp (disch := omega) only [if_neg]
      exact Ok.some_iff.2 ⟨by omega, fun i hi => hI i hi hi⟩
  · rintro (q | q) hq
    · exact Ok.some_iff.2 (by rw [decT (show Prp l from hq)])
    · exact Ok.some_iff.2 (by rw [hq.1, decF hq.2])
open Classical in
theorem refProper_eq : d_sparseref22q_Proper (l, ()) = some (decide (Prp l), ()) := by
  unfold d_sparseref22q_Proper
  simp only [cond_dec]
  by_cases hl : ((l.length : Nat) : Int) > 200
  · rw [if_pos hl, decF (fun h : Prp l => by have := h.1; omega)]
  rw [if_neg hl, ← Ok.eq_iff]
  refine Ok.bind_of (P := fun q => match q with | .inl _ => Prp l | .inr r => r = (false, ()) ∧ ¬ Prp l) ?_ ?_
  · refine Ok.for l.length (fun i _ => ∀ j, (h : j < l.length) → j < i → PrpI l.length j l[j]) (i0 := 0) rfl (fun j _ h => by omega) (Nat.zero_le _) ?_ ?_
    · rintro i ⟨⟩ _ hi hI
      have hg : getI l (i : Int) = some l[i] := getN_some (List.getElem?_eq_getElem hi)
      obtain ⟨⟨r1, r2⟩, r3, r4⟩ := hr _ (List.getElem_mem hi)
      have hcl := hc _ (List.getElem_mem hi)
      generalize hx : l[i] = x at *
      have bad : ¬ PrpI l.length i x → ¬ Prp l := fun h hp => h (hx ▸ hp.2 i hi)
      simp (disch := omega) only [if_pos, hg, Option.bind_some, cond_dec_beqF, cond_dec_beq, bneI, wrap_inc]
      by_cases c2 : x.2.1 ≤ x.1
      · rw [if_pos c2]; exact Ok.some_iff.2 ⟨rfl, bad fun h => by have := h.2.1; omega⟩
      rw [if_neg c2]
      by_cases c1 : ((x.2.2.1.length : Nat) : Int) > 200
      · rw [if_pos c1]; exact Ok.some_iff.2 ⟨rfl, bad fun h => by have := h.1; omega⟩
      rw [if_neg c1]
      have hu : IntKind.u64.wrap (IntKind.u64.wrap x.2.1 - IntKind.u64.wrap x.1) = x.2.1 - x.1 := by
        rw [wrapU64q_eq, wrapU64q_eq, wrapU64q_eq]; omega
      rw [hu, wrapUq_eq _ (by omega) (by omega)]
      by_cases c4 : x.2.1 - x.1 > ((x.2.2.1.length : Nat) : Int)
      · rw [if_pos c4]
        exact Ok.some_iff.2 ⟨rfl, bad fun h => by have := h.2.2.1; omega⟩
      rw [if_neg c4]
      have hd : x.2.1 - x.1 ≤ (x.2.2.1.length : Int) := by omega
      simp only [Option.bind_some]
      by_cases c5 : x.2.2.2.1 = -1
      · rw [decT c5]
        refine Ok.some_iff.2 ⟨rfl, fun j hj hji => ?_⟩
        by_cases e : j = i
        · subst e; rw [hx]; exact ⟨by omega, by omega, hd, .inl c5⟩
        · exact hI j hj (by omega)
      rw [decF c5]
      simp only [Bool.not_false, beq_self_eq_true, cond_true]
      by_cases c6 : x.2.2.2.1 ≤ (i : Int)
      · rw [if_pos c6]
        exact Ok.some_iff.2 ⟨rfl, bad fun h => by have := h.2.2.2; omega⟩
      rw [if_neg c6]
      by_cases c7 : x.2.2.2.1 ≥ ((l.length : Nat) : Int)
      · rw [if_pos c7]
        exact Ok.some_iff.2 ⟨rfl, bad fun h => by have := h.2.2.2; omega⟩
      rw [if_neg c7]
      refine Ok.some_iff.2 ⟨rfl, fun j hj hji => ?_⟩
      by_cases e : j = i
      · subst e; rw [hx]; exact ⟨by omega, by omega, hd, .inr ⟨by omega, by omega⟩⟩
      · exact hI j hj (by omega)
    · rintro ⟨⟩ hI
      simp (disch := omega) only [if_neg]
      exact Ok.some_iff.2 ⟨by omega, fun i hi => hI i hi hi⟩
  · rintro (q | q) hq
    · exact Ok.some_iff.2 (by rw [decT (show Prp l from hq)])
    · exact Ok.some_iff.2 (by rw [hq.1, decF hq.2])
end
def tri (n : Nat) : Nat := n * (n + 1) / 2
theorem tri_le {n : Nat} (h : n ≤ 200) : tri n ≤ 20100 := by
  unfold tri
  have : n * (n + 1) ≤ 200 * 201 := Nat.mul_le_mul h (by omega)
  omega
theorem tri_quo {n : Nat} (h : n ≤ 200) : quoO IntKind.i64 (IntKind.i64.wrap ((n : Int) * (IntKind.i64.wrap ((n : Int) + 1)))) 2 = some (tri n : Int) := by
  have hm : n * (n + 1) ≤ 200 * 201 := Nat.mul_le_mul h (by omega)
  have ht := tri_le h
  rw [wrap_inc (by omega), ← Int.natCast_mul, wrapN (by omega)]
  unfold quoO
  rw [if_pos (by omega)]
  have : ((n * (n + 1) : Nat) : Int).tdiv 2 = ((tri n : Nat) : Int) := rfl
  rw [this, wrapN (by omega)]
theorem triangle_eq {n : Nat} (h : n ≤ 200) : d_memory_triangle ((n : Int), ()) = some ((tri n : Int), ()) := by
  unfold d_memory_triangle
  simp only [tri_quo h, Option.bind_some]
def rwN (l : List FrT) (i : Nat) : Nat := match l[i]? with | some x => x.2.2.1.length | none => 0
def kpN (l : List FrT) (i : Nat) : Nat := match l[i]? with | some x => ((x.2.2.1.length : Int) - (x.2.1 - x.1)).toNat | none => 0
def prL (l : List FrT) (i : Nat) : Int := match l[i]? with | some x => x.2.2.2.1 | none => -1
def frE (l : List FrT) (i : Nat) : Nat := tri (rwN l i)
def kpE (l : List FrT) (i : Nat) : Nat := tri (kpN l i)
section
variable {l : List FrT} (hp : Prp l)
include hp
theorem Prp.at {i : Nat} (hi : i < l.length) : rwN l i ≤ 200 ∧ kpN l i < rwN l i ∧ l[i].2.2.1.length = rwN l i ∧ (l[i].2.2.1.length : Int) - (l[i].2.1 - l[i].1) = (kpN l i : Int) ∧ l[i].2.2.2.1 = prL l i := by
  obtain ⟨h1, h2, h3, h4⟩ := hp.2 i hi
  have e1 : rwN l i = l[i].2.2.1.length := by simp [rwN, hi]
  have e2 : kpN l i = ((l[i].2.2.1.length : Int) - (l[i].2.1 - l[i].1)).toNat := by simp [kpN, hi]
  have e3 : prL l i = l[i].2.2.2.1 := by simp [prL, hi]
  refine ⟨by omega, by omega, e1.symm, by omega, e3.symm⟩
theorem prL_pf : PF l.length (prL l) := fun i hi => by
  have := (hp.2 i hi).2.2.2
  rw [(hp.at hi).2.2.2.2] at this
  exact this
theorem frE_le (i : Nat) : frE l i ≤ 20100 := by
  unfold frE
  by_cases hi : i < l.length
  · exact tri_le (hp.at hi).1
  · have : rwN l i = 0 := by unfold rwN; rw [List.getElem?_eq_none (by omega)]
    rw [this]; decide
theorem kpE_le (i : Nat) : kpE l i ≤ 20100 := by
  unfold kpE
  by_cases hi : i < l.length
  · exact tri_le (by have := hp.at hi; omega)
  · have : kpN l i = 0 := by unfold kpN; rw [List.getElem?_eq_none (by omega)]
    rw [this]; decide
theorem sizes_eq (hr : ∀ x ∈ l, InR x) : d_memory_sizes (l, ()) = some (fT l.length (fun i => (frE l i : Int)), fT l.length (fun i => (kpE l i : Int)), ()) := by
  have hn := hp.1
  unfold d_memory_sizes
  refine bindR (fT l.length (fun i => (frE l i : Int)), fT l.length (fun i => (kpE l i : Int)), ()) rfl (loop_for l.length (fun k => (fT k (fun i => (frE l i : Int)), fT k (fun i => (kpE l i : Int)), ())) 0 rfl rfl (Nat.zero_le _) ?_ ?_)
  · intro k _ hk
    have hg : getI l (k : Int) = some l[k] := getN_some (List.getElem?_eq_getElem hk)
    obtain ⟨a1, a2, a3, a4, a5⟩ := hp.at hk
    obtain ⟨⟨r1, r2⟩, r3, r4⟩ := hr _ (List.getElem_mem hk)
    have h1 := (hp.2 k hk).2.1
    have e1 : IntKind.i64.wrap (((l[k].2.2.1.length : Nat) : Int) - IntKind.i64.wrap (l[k].2.1 - l[k].1)) = ((kpN l k : Nat) : Int) := by
      rw [wrap64 (x := l[k].2.1 - l[k].1) (by omega) (by omega), a4]
      exact wrapN (by omega)
    simp (disch := first | omega | (simp [fT_length]; omega)) only [cond_dec, if_pos, hg, Option.bind_some, e1, triangle_eq, limO_ok, wrap_inc, fT_succ]
    rw [a3]
    rfl
  · simp (disch := omega) only [cond_dec, if_neg]
theorem refSizes22_eq (hr : ∀ x ∈ l, InR x) : d_sparseref22q_Sizes (l, ()) = some (fT l.length (fun i => (frE l i : Int)), fT l.length (fun i => (kpE l i : Int)), ()) := by
  have hn := hp.1
  unfold d_sparseref22q_Sizes
  refine bindR (fT l.length (fun i => (frE l i : Int)), fT l.length (fun i => (kpE l i : Int)), ()) rfl (loop_for l.length (fun k => (fT k (fun i => (frE l i : Int)), fT k (fun i => (kpE l i : Int)), ())) 0 rfl rfl (Nat.zero_le _) ?_ ?_)
  · intro k _ hk
    have hg : getI l (k : Int) = some l[k] := getN_some (List.getElem?_eq_getElem hk)
    obtain ⟨a1, a2, a3, a4, a5⟩ := hp.at hk
    obtain ⟨⟨r1, r2⟩, r3, r4⟩ := hr _ (List.getElem_mem hk)
    have h1 := (hp.2 k hk).2.1
    have e1 : IntKind.i64.wrap (((l[k].2.2.1.length : Nat) : Int) - IntKind.i64.wrap (l[k].2.1 - l[k].1)) = ((kpN l k : Nat) : Int) := by
      rw [wrap64 (x := l[k].2.1 - l[k].1) (by omega) (by omega), a4]
      exact wrapN (by omega)
    simp (disch := omega) only [cond_dec, if_pos, hg, Option.bind_some, e1, fT_succ]
    rw [a3, tri_quo a1]
    simp (disch := first | omega | (simp [fT_length]; omega)) only [Option.bind_some, limO_ok]
    rw [tri_quo (show kpN l k ≤ 200 by omega)]
    simp (disch := first | omega | (simp [fT_length]; omega)) only [Option.bind_some, limO_ok, wrap_inc]
    rfl
  · simp (disch := omega) only [cond_dec, if_neg]
theorem children_eq : d_memory_children (l, ()) = some (fT l.length (kidsV (prL l) l.length), rootsV (prL l) l.length, ()) := by
  have hn := hp.1
  unfold d_memory_children
  simp (disch := omega) only [madeO_ok, Option.bind_some, fT_replicate]
  refine bindR (fT l.length (kidsV (prL l) l.length), rootsV (prL l) l.length, ()) rfl (loop_for l.length (fun k => (fT l.length (kidsV (prL l) k), rootsV (prL l) k, ())) 0 rfl rfl (Nat.zero_le _) ?_ ?_)
  · intro k _ hk
    have hg : getI l (k : Int) = some l[k] := getN_some (List.getElem?_eq_getElem hk)
    have a5 := (hp.at hk).2.2.2.2
    have hpf := prL_pf hp k hk
    have hrl := rootsV_length (prL l) k
    simp (disch := omega) only [cond_dec, if_pos, hg, Option.bind_some, a5, rootsV_succ]
    rcases hpf with h | ⟨h1, h2⟩
    · rw [if_pos (by omega)]
      simp (disch := first | omega | (simp; omega)) only [limO_ok, Option.bind_some, wrap_inc]
      rw [if_pos h]
      refine congrArg (fun a => some (Sum.inl (((k + 1 : Nat) : Int), a, rootsV (prL l) k ++ [(k : Int)], ()))) (fT_congr fun v hv => ?_)
      rw [kidsV_succ, if_neg (by omega), List.append_nil]
    · obtain ⟨p, hpp⟩ : ∃ p : Nat, prL l k = (p : Int) := ⟨(prL l k).toNat, by omega⟩
      have hkl := kidsV_length (prL l) k p
      rw [if_neg (by omega), hpp]
      have hpl : p < l.length := by omega
      simp (disch := first | omega | (simp; omega)) only [fT_length, idxN_nat, Option.bind_some, atO_fT, limO_ok, fT_set, wrap_inc, Nat.beq_refl, Bool.and_true, cond_true]
      rw [if_neg (by omega), List.append_nil]
      refine congrArg (fun a => some (Sum.inl (((k + 1 : Nat) : Int), a, rootsV (prL l) k, ()))) (fT_congr fun v hv => ?_)
      rw [kidsV_succ]
      unfold upd
      by_cases e : v = p
      · subst e; rw [if_pos rfl, if_pos hpp]
      · rw [if_neg e, if_neg (by omega), List.append_nil]
  · simp (disch := omega) only [cond_dec, if_neg]
end
open Classical in
theorem permutation_eq (o : List Int) (ho : o.length ≤ 4000) : d_memory_permutation (o, ()) = some (decide (IsPerm o o.length), ()) := by
  unfold d_memory_permutation
  simp (disch := omega) only [madeO_ok, Option.bind_some, cT_none]
  rw [← Ok.eq_iff]
  refine Ok.bind_of (P := fun q => match q with | .inl _ => IsPerm o o.length | .inr r => r = (false, ()) ∧ ¬ IsPerm o o.length) ?_ ?_
  · refine Ok.for o.length (fun i t => t = (cT o.length (fun v => (v : Int) ∈ o.take i), ()) ∧ (∀ k, (h : k < o.length) → k < i → 0 ≤ o[k] ∧ o[k] < (o.length : Int)) ∧ (o.take i).Nodup) (i0 := 0) rfl ⟨?_, fun k _ h => by omega, by simp⟩ (Nat.zero_le _) ?_ ?_
    · exact congrArg (fun a => (a, ())) (cT_congr fun v _ => by simp)
    · rintro i _ _ hi ⟨rfl, hb, hd⟩
      have hg : getI o (i : Int) = some o[i] := getN_some (List.getElem?_eq_getElem hi)
      have hmem : o[i] ∈ o := List.getElem_mem hi
      simp (disch := omega) only [cond_dec, if_pos, hg, Option.bind_some, cond_dec_beqF]
      by_cases c1 : o[i] < 0
      · rw [if_pos c1]
        exact Ok.some_iff.2 ⟨rfl, fun h => by have := h.2.1 _ hmem; omega⟩
      rw [if_neg c1]
      by_cases c2 : o[i] ≥ ((o.length : Nat) : Int)
      · rw [if_pos c2]
        exact Ok.some_iff.2 ⟨rfl, fun h => by have := h.2.1 _ hmem; omega⟩
      rw [if_neg c2]
      obtain ⟨x, hx⟩ : ∃ x : Nat, o[i] = (x : Int) := ⟨o[i].toNat, by omega⟩
      have hxn : x < o.length := by omega
      rw [hx]
      simp (disch := omega) only [cT_length, idxN_nat, Option.bind_some, cT_at, cond_dec]
      have ht : o.take (i + 1) = o.take i ++ [(x : Int)] := by rw [← take_snoc hi, hx]
      by_cases c3 : (x : Int) ∈ o.take i
      · rw [if_pos c3]
        refine Ok.some_iff.2 ⟨rfl, fun h => ?_⟩
        obtain ⟨m, hm1, hm2⟩ := List.mem_iff_getElem.1 c3
        simp only [List.length_take] at hm1
        simp only [List.getElem_take] at hm2
        have := (List.getElem_inj h.2.2).1 (hm2.trans hx.symm)
        omega
      rw [if_neg c3]
      simp (disch := omega) only [Option.bind_some, cT_length, idxN_nat, cT_at, cT_set, wrap_inc]
      refine Ok.some_iff.2 ⟨rfl, ?_, fun k hk hki => ?_, ?_⟩
      · exact congrArg (fun a => (a, ())) (cT_congr fun v _ => by rw [ht, List.mem_append, List.mem_singleton]; exact or_congr Iff.rfl ⟨fun h => by omega, fun h => by omega⟩)
      · by_cases h : k = i
        · subst h; omega
        · exact hb k hk (by omega)
      · rw [ht, List.nodup_append]
        refine ⟨hd, by simp, fun a ha b hb e => ?_⟩
        rw [List.mem_singleton] at hb
        rw [e, hb] at ha; exact c3 ha
    · rintro _ ⟨rfl, hb, hd⟩
      simp (disch := omega) only [cond_dec, if_neg]
      refine Ok.some_iff.2 ⟨rfl, fun y hy => ?_, ?_⟩
      · obtain ⟨m, hm, rfl⟩ := List.mem_iff_getElem.1 hy
        exact hb m hm (by omega)
      · rw [List.take_of_length_le (by omega)] at hd; exact hd
  · rintro (q | q) hq
    · exact Ok.some_iff.2 (by rw [decT (show IsPerm o o.length from hq)])
    · exact Ok.some_iff.2 (by rw [hq.1, decF hq.2])
end Go.Fw
end

section
namespace Go.Fw
set_option linter.unusedSimpArgs false
set_option linter.unusedVariables false
open Go
def IsMin (S : Nat → Prop) (at' : Nat → Nat) (m : Nat) : Prop := (∃ u, S u ∧ at' u = m) ∧ ∀ u, S u → m ≤ at' u
theorem IsMin.uniq {S : Nat → Prop} {a : Nat → Nat} {m m' : Nat} (h : IsMin S a m) (h' : IsMin S a m') : m = m' := by
  obtain ⟨⟨u, h1, h2⟩, h3⟩ := h
  obtain ⟨⟨v, k1, k2⟩, k3⟩ := h'
  have := h3 v k1
  have := k3 u h1
  omega
theorem IsMin.congr {S T : Nat → Prop} {a : Nat → Nat} {m : Nat} (h : IsMin S a m) (hST : ∀ u, S u ↔ T u) : IsMin T a m := by
  obtain ⟨⟨u, h1, h2⟩, h3⟩ := h
  exact ⟨⟨u, (hST u).1 h1, h2⟩, fun v hv => h3 v ((hST v).2 hv)⟩
theorem IsMin.or {S T : Nat → Prop} {a : Nat → Nat} {m k : Nat} (h : IsMin S a m) (h' : IsMin T a k) : IsMin (fun u => S u ∨ T u) a (if k < m then k else m) := by
  obtain ⟨⟨u, h1, h2⟩, h3⟩ := h
  obtain ⟨⟨v, k1, k2⟩, k3⟩ := h'
  by_cases c : k < m
  · rw [if_pos c]
    refine ⟨⟨v, .inr k1, k2⟩, fun w hw => ?_⟩
    rcases hw with hw | hw
    · have := h3 w hw; omega
    · exact k3 w hw
  · rw [if_neg c]
    refine ⟨⟨u, .inl h1, h2⟩, fun w hw => ?_⟩
    rcases hw with hw | hw
    · exact h3 w hw
    · have := k3 w hw; omega
theorem IsMin.one (v : Nat) (a : Nat → Nat) : IsMin (fun u => u = v) a (a v) := ⟨⟨v, rfl, rfl⟩, fun u hu => by subst hu; exact Nat.le_refl _⟩
def Proc (n : Nat) (f : Nat → Int) (a : Nat → Nat) : Prop := ∀ r, r < n → (∀ i, Sub n f i r → a i ≤ a r) ∧ ∀ m, IsMin (fun u => Sub n f u r) a m → a r + 1 = m + sz n f r
section
variable {l : List FrT} (hp : Prp l) {o : List Int} (ho : IsPerm o l.length)
include hp ho
open Classical in
theorem processing_eq : d_memory_processing (l, o, ()) = some (decide (Proc l.length (prL l) (posN o)), ()) := by
  have hn := hp.1
  have hf := prL_pf hp
  have hol := ho.1
  have hsub : ∀ {u v}, Sub l.length (prL l) u v → v < l.length → u < l.length := fun h hv => by have := (Sub.le hf h).1; omega
  unfold d_memory_processing
  simp (disch := omega) only [madeO_ok, Option.bind_some, fT_replicate, hol]
  refine bindR (fT l.length (fun _ => (0 : Int)), fT l.length (fun _ => (0 : Int)), fT l.length (fun x => (posN o x : Int)), ()) ?_ (loop_for l.length (fun k => (fT l.length (fun _ => (0 : Int)), fT l.length (fun _ => (0 : Int)), fT l.length (fun x => if posN o x < k then (posN o x : Int) else 0), ())) 0 rfl ?_ (Nat.zero_le _) ?_ ?_)
  rotate_left
  · exact congrArg (fun a => (_, _, a, ())) (fT_congr fun x _ => by rw [if_neg (by omega)])
  · intro k _ hk
    obtain ⟨h1, h2⟩ := ho.get hk
    simp (disch := omega) only [cond_dec, if_pos, h1, Option.bind_some, fT_length, idxN_nat, atO_fT, fT_set, wrap_inc]
    refine congrArg (fun a => some (Sum.inl (((k + 1 : Nat) : Int), fT l.length (fun _ => (0 : Int)), fT l.length (fun _ => (0 : Int)), a, ()))) (fT_congr fun x hx => ?_)
    simp only [upd]
    by_cases c : x = ordN o k
    · rw [if_pos c, c, ho.pos_ord hk, if_pos (by omega)]
    · rw [if_neg c]
      have : posN o x ≠ k := fun e => c (by rw [← e, (ho.pos hx).2])
      by_cases c2 : posN o x < k
      · rw [if_pos c2, if_pos (by omega)]
      · rw [if_neg c2, if_neg (by omega)]
  · simp (disch := omega) only [cond_dec, if_neg]
    exact congrArg (fun a => some (Sum.inr (fT l.length (fun _ => (0 : Int)), fT l.length (fun _ => (0 : Int)), a, ()))) (fT_congr fun x hx => by rw [if_pos (ho.pos hx).1])
  simp only []
  refine bindR (fT l.length (fun _ => (0 : Int)), fT l.length (fun x => (posN o x : Int)), fT l.length (fun x => (posN o x : Int)), ()) ?_ (loop_for l.length (fun k => (fT l.length (fun _ => (0 : Int)), fT l.length (fun x => if x < k then (posN o x : Int) else 0), fT l.length (fun x => (posN o x : Int)), ())) 0 rfl ?_ (Nat.zero_le _) ?_ ?_)
  rotate_left
  · exact congrArg (fun a => (_, a, _)) (fT_congr fun x _ => by rw [if_neg (by omega)])
  · intro k _ hk
    simp (disch := omega) only [cond_dec, if_pos, Option.bind_some, fT_length, idxN_nat, atO_fT, fT_set, wrap_inc]
    refine congrArg (fun a => some (Sum.inl (((k + 1 : Nat) : Int), fT l.length (fun _ => (0 : Int)), a, fT l.length (fun x => (posN o x : Int)), ()))) (fT_congr fun x hx => ?_)
    simp only [upd]
    by_cases c : x = k
    · subst c; rw [if_pos rfl, if_pos (by omega)]
    · rw [if_neg c]
      by_cases c2 : x < k
      · rw [if_pos c2, if_pos (by omega)]
      · rw [if_neg c2, if_neg (by omega)]
  · simp (disch := omega) only [cond_dec, if_neg]
    exact congrArg (fun a => some (Sum.inr (fT l.length (fun _ => (0 : Int)), a, fT l.length (fun x => (posN o x : Int)), ()))) (fT_congr fun x hx => by rw [if_pos hx])
  simp only []
  have hpl : ∀ v, v < l.length → posN o v < l.length := fun v hv => (ho.pos hv).1
  generalize hat : posN o = at' at *
  generalize hnn : l.length = n at *
  generalize hff : prL l = f at *
  rw [← Ok.eq_iff]
  refine Ok.bind_of (P := fun q => match q with
    | .inl t => ∃ g : Nat → Nat, t = (fT n (fun v => (sz n f v : Int)), fT n (fun v => (g v : Int)), fT n (fun v => (at' v : Int)), ()) ∧ (∀ v, v < n → IsMin (fun u => Sub n f u v) at' (g v)) ∧ ∀ i r, Sub n f i r → r < n → at' i ≤ at' r
    | .inr r => r = (false, ()) ∧ ¬ Proc n f at') ?_ ?_
  · have h0 : fT n (fun _ => (0 : Int)) = fT n (fun v => (cnt (Dn n f 0 v) n : Int)) := fT_congr fun v hv => by
      rw [cnt_congr (Q := fun _ => False) (fun u _ => ⟨fun h => by rcases h with ⟨_, h⟩ | ⟨c, h, _⟩ <;> omega, False.elim⟩), cnt_false]; rfl
    refine Ok.for n (fun j t => ∃ g : Nat → Nat, t = (fT n (fun v => (cnt (Dn n f j v) n : Int)), fT n (fun v => (g v : Int)), fT n (fun v => (at' v : Int)), ()) ∧ (∀ v, v < n → IsMin (fun u => u = v ∨ Dn n f j v u) at' (g v)) ∧ ∀ i p, i < j → RelF n f i p → at' i ≤ at' p) (i0 := 0) rfl ⟨at', by rw [h0], fun v hv => (IsMin.one v at').congr fun u => ⟨.inl, fun h => h.elim id fun h => by rcases h with ⟨_, h⟩ | ⟨c, h, _⟩ <;> omega⟩, fun i p h => by omega⟩ (Nat.zero_le _) ?_ ?_
    · rintro j _ _ hj ⟨g, rfl, hg1, hg2⟩
      have hgl : getI l (j : Int) = some (l[j]'(by omega)) := getN_some (List.getElem?_eq_getElem (by omega))
      have hpar : (l[j]'(by omega)).2.2.2.1 = f j := by rw [← hff]; exact (hp.at (by omega)).2.2.2.2
      have hc := fun v => cnt_le (Dn n f j v) n
      have e1 : cnt (fun u => Sub n f u j) n = cnt (Dn n f j j) n + 1 := by
        rw [← cnt_congr (fun u _ => Dn_self hf hj), cnt_or (fun u _ h1 h2 => by
          subst h1
          rcases h2 with ⟨_, h⟩ | ⟨c, h, h3, _⟩
          · omega
          · have := Sub.le hf h3; omega), cnt_one hj]; omega
      have hcj := hc j
      have hmj : IsMin (fun u => Sub n f u j) at' (g j) := (hg1 j hj).congr fun u => Dn_self hf hj
      have hjj : ∀ v, v = j → IsMin (fun u => u = v ∨ Dn n f (j + 1) v u) at' (g v) := by
        rintro v rfl
        refine (hg1 v hj).congr fun u => ?_
        rw [Dn_self hf hj, Dn_succ hf hj, if_pos rfl]
        exact ⟨.inr, fun h => h.elim (fun e => by rw [e]; exact Up.refl v) id⟩
      simp (disch := omega) only [cond_dec, if_pos, hgl, Option.bind_some, idxN_nat, atO_fT, wrap_inc, fT_set, fT_length, hpar]
      rcases hf j hj with h | h
      · rw [if_neg (by omega)]
        simp (disch := omega) only [Option.bind_some, wrap_inc]
        refine Ok.some_iff.2 ⟨rfl, g, ?_, fun v hv => ?_, fun i p hij hip => ?_⟩
        · refine congrArg (fun a => (a, fT n (fun v => (g v : Int)), fT n (fun v => (at' v : Int)), ())) (fT_congr fun v hv => ?_)
          simp only [upd]
          rw [cnt_congr (fun u _ => Dn_succ hf hj)]
          by_cases h2 : v = j
          · subst h2; simp only [if_true, e1]
          · have : ¬ (-1 : Int) = (v : Int) := by omega
            simp only [if_neg h2, h, if_neg this]
        · by_cases h2 : v = j
          · exact hjj v h2
          · refine (hg1 v hv).congr fun u => or_congr Iff.rfl ?_
            rw [Dn_succ hf hj, if_neg h2, if_neg (by omega)]
        · rcases Nat.lt_or_ge i j with h3 | h3
          · exact hg2 i p h3 hip
          · obtain rfl : i = j := by omega
            have := hip.2; omega
      · obtain ⟨p, hpp⟩ : ∃ p : Nat, f j = (p : Int) := ⟨(f j).toNat, by omega⟩
        have hpn : p < n := by omega
        have hpj : p ≠ j := by omega
        have hcp := hc p
        rw [if_pos (by omega), hpp]
        have e2 : cnt (fun u => Dn n f j p u ∨ Sub n f u j) n = cnt (Dn n f j p) n + cnt (fun u => Sub n f u j) n := cnt_or (fun u _ h1 => Dn_apart hf hj hpp h1)
        have hsj := cnt_le (fun u => Sub n f u j) n
        have u1 : upd (fun v => (cnt (Dn n f j v) n : Int)) j ((cnt (Dn n f j j) n + 1 : Nat) : Int) p = (cnt (Dn n f j p) n : Int) := upd_ne _ _ hpj
        have u2 : upd (fun v => (cnt (Dn n f j v) n : Int)) j ((cnt (Dn n f j j) n + 1 : Nat) : Int) j = ((cnt (Dn n f j j) n + 1 : Nat) : Int) := upd_same _ _ _
        simp (disch := omega) only [idxN_nat, atO_fT, Option.bind_some, cond_dec]
        by_cases c : (at' p : Int) < (at' j : Int)
        · rw [if_pos c]
          refine Ok.some_iff.2 ⟨rfl, fun hP => ?_⟩
          have := (hP p hpn).1 j ((Sub.step_iff (n := n) (f := f)).2 (.inr ⟨p, ⟨hj, hpp⟩, Up.refl p⟩))
          omega
        · rw [if_neg c]
          simp (disch := omega) only [idxN_nat, atO_fT, Option.bind_some, u1, u2, wrap_add, fT_set, fT_length, wrap_inc]
          refine Ok.some_iff.2 ⟨rfl, upd g p (if g j < g p then g j else g p), ?_, fun v hv => ?_, fun i q hij hip => ?_⟩
          · have ea : fT n (upd (upd (fun v => (cnt (Dn n f j v) n : Int)) j ((cnt (Dn n f j j) n + 1 : Nat) : Int)) p ((cnt (Dn n f j p) n + (cnt (Dn n f j j) n + 1) : Nat) : Int)) = fT n (fun v => (cnt (Dn n f (j + 1) v) n : Int)) := by
              refine fT_congr fun v hv => ?_
              rw [cnt_congr (fun u _ => Dn_succ hf hj)]
              simp only [upd]
              by_cases h2 : v = p
              · subst h2
                rw [if_pos rfl]
                simp only [if_neg hpj, hpp, if_true]
                rw [e2, e1]
              · rw [if_neg h2]
                by_cases h3 : v = j
                · subst h3; simp only [if_true, e1]
                · have : ¬ (p : Int) = (v : Int) := by omega
                  simp only [if_neg h3, hpp, if_neg this]
            have eb : fT n (upd (fun v => (g v : Int)) p (if (g j : Int) < (g p : Int) then (g j : Int) else (g p : Int))) = fT n (fun v => ((upd g p (if g j < g p then g j else g p)) v : Int)) := by
              refine fT_congr fun v hv => ?_
              simp only [upd]
              by_cases h2 : v = p
              · rw [if_pos h2, if_pos h2]
                by_cases h3 : g j < g p
                · rw [if_pos (by omega), if_pos h3]
                · rw [if_neg (by omega), if_neg h3]
              · rw [if_neg h2, if_neg h2]
            show (_, _, _, ()) = (_, _, _, ())
            rw [ea, eb]
          · by_cases h2 : v = p
            · subst h2
              rw [upd_same]
              refine ((hg1 v hpn).or hmj).congr fun u => ?_
              rw [Dn_succ hf hj, if_neg hpj, if_pos hpp, or_assoc]
            · rw [upd_ne _ _ h2]
              by_cases h3 : v = j
              · exact hjj v h3
              · refine (hg1 v hv).congr fun u => or_congr Iff.rfl ?_
                rw [Dn_succ hf hj, if_neg h3, if_neg (by omega)]
          · rcases Nat.lt_or_ge i j with h3 | h3
            · exact hg2 i q h3 hip
            · obtain rfl : i = j := by omega
              have e : q = p := by have := hip.2; omega
              subst e; omega
    · rintro _ ⟨g, rfl, hg1, hg2⟩
      simp (disch := omega) only [cond_dec, if_neg]
      refine Ok.some_iff.2 ⟨g, ?_, fun v hv => ?_, fun i r h => ?_⟩
      · refine congrArg (fun a => (a, fT n (fun v => (g v : Int)), fT n (fun v => (at' v : Int)), ())) (fT_congr fun v hv => ?_)
        unfold sz
        rw [cnt_congr (fun u _ => Dn_done hf hv (Nat.le_refl _))]
      · refine (hg1 v hv).congr fun u => ?_
        rw [Dn_done hf hv (Nat.le_refl _)]
        exact ⟨fun h => h.elim (fun e => by rw [e]; exact Up.refl v) id, .inr⟩
      · intro hr
        induction h with
        | refl => exact Nat.le_refl _
        | step hs _ ih => exact Nat.le_trans (hg2 _ _ (hs.1) hs) (ih hr)
  · rintro (q | q) hq
    · obtain ⟨g, rfl, hg1, hg2⟩ := hq
      refine Ok.bind_of (P := fun q => match q with | .inl _ => Proc n f at' | .inr r => r = (false, ()) ∧ ¬ Proc n f at') ?_ ?_
      · refine Ok.for n (fun k t => t = (fT n (fun v => (sz n f v : Int)), fT n (fun v => (g v : Int)), fT n (fun v => (at' v : Int)), ()) ∧ ∀ i, i < k → at' i + 1 = g i + sz n f i) (i0 := 0) rfl ⟨rfl, fun i h => by omega⟩ (Nat.zero_le _) ?_ ?_
        · rintro k _ _ hk ⟨rfl, hI⟩
          have hgk := (hg1 k hk).2 k (Up.refl k)
          have hak := hpl k hk
          simp (disch := omega) only [cond_dec, if_pos, idxN_nat, atO_fT, Option.bind_some, fT_length, wrap_sub, wrap_inc, bneI]
          by_cases c : at' k + 1 = g k + sz n f k
          · rw [decT (show ((at' k - g k + 1 : Nat) : Int) = (sz n f k : Int) by omega)]
            refine Ok.some_iff.2 ⟨rfl, rfl, fun i hi => ?_⟩
            by_cases e : i = k
            · subst e; exact c
            · exact hI i (by omega)
          · rw [decF (show ¬ ((at' k - g k + 1 : Nat) : Int) = (sz n f k : Int) by omega)]
            exact Ok.some_iff.2 ⟨rfl, fun hP => c ((hP k hk).2 _ (hg1 k hk))⟩
        · rintro _ ⟨rfl, hI⟩
          simp (disch := omega) only [cond_dec, if_neg]
          refine Ok.some_iff.2 fun r hr => ⟨fun i h => hg2 i r h hr, fun m hm => ?_⟩
          rw [hm.uniq (hg1 r hr)]
          exact hI r hr
      · rintro (q | q) hq
        · exact Ok.some_iff.2 (by rw [decT (show Proc n f at' from hq)])
        · exact Ok.some_iff.2 (by rw [hq.1, decF hq.2])
    · exact Ok.some_iff.2 (by rw [hq.1, decF hq.2])
end
end Go.Fw
end

section
namespace Go.Fw
set_option linter.unusedSimpArgs false
set_option linter.unusedVariables false
open Go
section
variable {l : List FrT} (hp : Prp l)
include hp
open Classical in
theorem under_eq {i r : Nat} (hi : i < l.length) (hr : r < l.length) : d_sparseref22q_under (l, (i : Int), (r : Int), ()) = some (decide (Sub l.length (prL l) i r), ()) := by
  have hf := prL_pf hp
  unfold d_sparseref22q_under
  rw [← Ok.eq_iff]
  refine Ok.bind_of (P := fun q => decide (q.1 = (r : Int)) = decide (Sub l.length (prL l) i r)) ?_ ?_
  · refine Ok.loop (fun s => (∃ v : Nat, s = ((v : Int), ()) ∧ v < l.length ∧ (Sub l.length (prL l) i r ↔ Sub l.length (prL l) v r)) ∨ (s = (-1, ()) ∧ ¬ Sub l.length (prL l) i r)) (fun s => if s.1 = -1 then 0 else l.length + 1 - s.1.toNat) (.inl ⟨i, rfl, hi, Iff.rfl⟩) ?_
    rintro _ (⟨v, rfl, hv, hs⟩ | ⟨rfl, hs⟩)
    · have hg : getI l (v : Int) = some l[v] := getN_some (List.getElem?_eq_getElem hv)
      have hpar := (hp.at hv).2.2.2.2
      simp (disch := omega) only [cond_dec_beq, if_pos, bneI]
      by_cases e : v = r
      · subst e
        rw [decT rfl]
        refine Ok.some_iff.2 ?_
        show decide ((v : Int) = (v : Int)) = _
        rw [decT rfl, decT (hs.2 (Up.refl v))]
      · rw [decF (show ¬ (v : Int) = (r : Int) by omega)]
        simp only [Bool.not_false, cond_true, Option.bind_some, hg, hpar]
        rcases hf v hv with h | h
        · rw [h]
          refine Ok.some_iff.2 ⟨.inr ⟨rfl, fun h2 => ?_⟩, ?_⟩
          · rcases Sub.step_iff.1 (hs.1 h2) with e2 | ⟨p, hp1, _⟩
            · exact e e2
            · have := hp1.2; omega
          · simp only [if_true]
            rw [if_neg (by omega)]; simp only [Int.toNat_natCast]; omega
        · obtain ⟨p, hpp⟩ : ∃ p : Nat, prL l v = (p : Int) := ⟨(prL l v).toNat, by omega⟩
          rw [hpp]
          refine Ok.some_iff.2 ⟨.inl ⟨p, rfl, by omega, hs.trans ?_⟩, ?_⟩
          · rw [Sub.step_iff]
            refine ⟨fun h2 => ?_, fun h2 => .inr ⟨p, ⟨hv, hpp⟩, h2⟩⟩
            rcases h2 with e2 | ⟨q, hq1, hq2⟩
            · exact absurd e2 e
            · have : q = p := by have := hq1.2; omega
              exact this ▸ hq2
          · rw [if_neg (by omega), if_neg (by omega)]; simp only [Int.toNat_natCast]; omega
    · simp (disch := omega) only [cond_dec_beq, if_neg]
      refine Ok.some_iff.2 ?_
      show decide ((-1 : Int) = (r : Int)) = _
      rw [decF hs, decF (by omega)]
  · rintro ⟨q, ⟨⟩⟩ hq
    refine Ok.some_iff.2 ?_
    rw [← hq]
    exact congrArg (fun b => (b, ())) (by by_cases e : q = (r : Int) <;> simp [e])
variable {o : List Int} (ho : IsPerm o l.length)
include ho
open Classical in
theorem refProcessing_eq : d_sparseref22q_Processing (l, o, ()) = some (decide (Proc l.length (prL l) (posN o)), ()) := by
  have hn := hp.1
  have hf := prL_pf hp
  have hu := fun {i r} hi hr => under_eq hp (i := i) (r := r) hi hr
  have hpl : ∀ v, v < l.length → posN o v < l.length := fun v hv => (ho.pos hv).1
  unfold d_sparseref22q_Processing
  simp only [Invert_eq ho (show l.length ≤ 4000 by omega), Option.bind_some]
  generalize hat : posN o = at' at *
  generalize hnn : l.length = n at *
  generalize hff : prL l = f at *
  rw [← Ok.eq_iff]
  refine Ok.bind_of (P := fun q => match q with | .inl _ => Proc n f at' | .inr r => r = (false, ()) ∧ ¬ Proc n f at') ?_ ?_
  · refine Ok.for n (fun k _ => ∀ r, r < k → (∀ i, Sub n f i r → at' i ≤ at' r) ∧ ∀ m, IsMin (fun u => Sub n f u r) at' m → at' r + 1 = m + sz n f r) (i0 := 0) rfl (fun r h => by omega) (Nat.zero_le _) ?_ ?_
    · rintro r ⟨⟩ _ hr hI
      have hgr : getI (fT n (fun x => (at' x : Int))) (r : Int) = some (at' r : Int) := getN_some (fT_get hr)
      have har := hpl r hr
      simp (disch := omega) only [cond_dec, if_pos, hgr, Option.bind_some]
      refine Ok.bind_of (P := fun q => match q with
        | .inl t => ∃ g : Nat, t = ((sz n f r : Int), (g : Int), ()) ∧ IsMin (fun u => Sub n f u r) at' g ∧ ∀ u, Sub n f u r → at' u ≤ at' r
        | .inr x => x = .inr (.inr (false, ())) ∧ ¬ Proc n f at') ?_ ?_
      · refine Ok.seq n (fun i s => ∃ g : Nat, s = ((cnt (fun u => Sub n f u r) i : Int), (g : Int), (i : Int), ()) ∧ IsMin (fun u => u = r ∨ (u < i ∧ Sub n f u r)) at' g ∧ ∀ u, u < i → Sub n f u r → at' u ≤ at' r) 0 ⟨at' r, rfl, (IsMin.one r at').congr fun u => ⟨.inl, fun h => h.elim id fun h => by omega⟩, fun u h => by omega⟩ (Nat.zero_le _) ?_ ?_
        · rintro i _ _ hi ⟨g, rfl, hg1, hg2⟩
          have hgi : getI (fT n (fun x => (at' x : Int))) (i : Int) = some (at' i : Int) := getN_some (fT_get hi)
          have hci := cnt_le (fun u => Sub n f u r) i
          simp (disch := omega) only [cond_dec, if_pos, hu hi hr, Option.bind_some]
          rcases cnt_succ (fun u => Sub n f u r) i with ⟨hs, hcs⟩ | ⟨hs, hcs⟩
          · rw [if_pos hs]
            simp (disch := omega) only [hgi, hgr, Option.bind_some]
            by_cases c : (at' i : Int) > (at' r : Int)
            · rw [if_pos c]
              refine Ok.some_iff.2 ⟨rfl, fun hP => ?_⟩
              have := (hP r hr).1 i hs; omega
            · rw [if_neg c]
              simp (disch := omega) only [Option.bind_some, wrap_inc]
              refine Ok.some_iff.2 ⟨if at' i < g then at' i else g, ?_, ((hg1.or (IsMin.one i at'))).congr fun u => ?_, fun u hui hsu => ?_⟩
              · have : (if (at' i : Int) < (g : Int) then (at' i : Int) else (g : Int)) = ((if at' i < g then at' i else g : Nat) : Int) := by
                  by_cases h3 : at' i < g
                  · rw [if_pos (by omega), if_pos h3]
                  · rw [if_neg (by omega), if_neg h3]
                rw [this, hcs]
              · constructor
                · rintro ((h | ⟨h, h2⟩) | rfl)
                  · exact .inl h
                  · exact .inr ⟨by omega, h2⟩
                  · exact .inr ⟨by omega, hs⟩
                · rintro (h | ⟨h, h2⟩)
                  · exact .inl (.inl h)
                  · rcases Nat.lt_or_ge u i with h3 | h3
                    · exact .inl (.inr ⟨h3, h2⟩)
                    · exact .inr (by omega)
              · rcases Nat.lt_or_ge u i with h3 | h3
                · exact hg2 u h3 hsu
                · obtain rfl : u = i := by omega
                  omega
          · rw [if_neg hs]
            simp (disch := omega) only [Option.bind_some, wrap_inc]
            refine Ok.some_iff.2 ⟨g, by rw [hcs], hg1.congr fun u => or_congr Iff.rfl ⟨fun h => ⟨by omega, h.2⟩, fun h => ⟨?_, h.2⟩⟩, fun u hui hsu => ?_⟩
            · rcases Nat.lt_or_ge u i with h3 | h3
              · exact h3
              · obtain rfl : u = i := by omega
                exact absurd h.2 hs
            · rcases Nat.lt_or_ge u i with h3 | h3
              · exact hg2 u h3 hsu
              · obtain rfl : u = i := by omega
                exact absurd hsu hs
        · rintro _ ⟨g, rfl, hg1, hg2⟩
          simp (disch := omega) only [cond_dec, if_neg]
          have hlt : ∀ u, Sub n f u r → u < n := fun u h => by have := (Sub.le hf h).1; omega
          refine Ok.some_iff.2 ⟨g, rfl, hg1.congr fun u => ⟨fun h => h.elim (fun e => by rw [e]; exact Up.refl r) (fun h => h.2), fun h => .inr ⟨hlt u h, h⟩⟩, fun u h => hg2 u (hlt u h) h⟩
      · rintro (q | q) hq
        · obtain ⟨g, rfl, hg1, hg2⟩ := hq
          have hgl := hg1.2 r (Up.refl r)
          simp (disch := omega) only [hgr, Option.bind_some, wrap_sub, wrap_inc, bneI]
          by_cases c : at' r + 1 = g + sz n f r
          · rw [decT (show ((at' r - g + 1 : Nat) : Int) = (sz n f r : Int) by omega)]
            refine Ok.some_iff.2 ⟨rfl, fun q hq => ?_⟩
            by_cases e : q = r
            · subst e
              exact ⟨hg2, fun m hm => by rw [hm.uniq hg1]; exact c⟩
            · exact hI q (by omega)
          · rw [decF (show ¬ ((at' r - g + 1 : Nat) : Int) = (sz n f r : Int) by omega)]
            exact Ok.some_iff.2 ⟨rfl, fun hP => c ((hP r hr).2 _ hg1)⟩
        · obtain ⟨rfl, hq⟩ := hq
          exact Ok.some_iff.2 ⟨rfl, hq⟩
    · rintro ⟨⟩ hI
      simp (disch := omega) only [cond_dec, if_neg]
      exact Ok.some_iff.2 hI
  · rintro (q | q) hq
    · exact Ok.some_iff.2 (by rw [decT (show Proc n f at' from hq)])
    · exact Ok.some_iff.2 (by rw [hq.1, decF hq.2])
end
def ksum (l : List FrT) (L : List Int) : Int := (L.map fun c => (kpE l c.toNat : Int)).sum
theorem ksum_append (l : List FrT) (L M : List Int) : ksum l (L ++ M) = ksum l L + ksum l M := by
  unfold ksum; rw [List.map_append, List.sum_append]
theorem ksum_one (l : List FrT) (c : Nat) : ksum l [(c : Int)] = (kpE l c : Int) := by simp [ksum]
theorem ksum_bd {l : List FrT} (hp : Prp l) : ∀ L : List Int, 0 ≤ ksum l L ∧ ksum l L ≤ L.length * 20100
  | [] => ⟨by simp [ksum], by simp [ksum]⟩
  | c :: L => by
      obtain ⟨h1, h2⟩ := ksum_bd hp L
      have h3 := kpE_le hp c.toNat
      have e : ksum l (c :: L) = (kpE l c.toNat : Int) + ksum l L := by simp [ksum]
      rw [e, List.length_cons]
      refine ⟨by omega, ?_⟩
      rw [Int.natCast_succ, Int.add_mul]
      omega
noncomputable def stS (l : List FrT) (o : List Int) : Nat → Int
  | 0 => 0
  | k + 1 => stS l o k - ksum l (kidsV (prL l) l.length (ordN o k)) + (kpE l (ordN o k) : Int)
noncomputable def pkS (l : List FrT) (o : List Int) : Nat → Int
  | 0 => 0
  | k + 1 => if stS l o k + (frE l (ordN o k) : Int) > pkS l o k then stS l o k + (frE l (ordN o k) : Int) else pkS l o k
theorem stS_bd {l : List FrT} (hp : Prp l) (o : List Int) : ∀ k : Nat, -((k : Int) * 4040100) ≤ stS l o k ∧ stS l o k ≤ (k : Int) * 4040100
  | 0 => ⟨by simp [stS], by simp [stS]⟩
  | k + 1 => by
      obtain ⟨h1, h2⟩ := stS_bd hp o k
      obtain ⟨h3, h4⟩ := ksum_bd hp (kidsV (prL l) l.length (ordN o k))
      have h5 := kidsV_length (prL l) l.length (ordN o k)
      have h6 := kpE_le hp (ordN o k)
      have hn := hp.1
      unfold stS
      constructor <;> omega
section
variable {l : List FrT} (hr : ∀ x ∈ l, InR x) (hc : ∀ x ∈ l, x.2.2.1.length < 4611686018427387904)
include hr hc
open Classical in
noncomputable def simE (l : List FrT) (o : List Int) : Int × Int := if Prp l then if o.length = l.length then if IsPerm o l.length then if Proc l.length (prL l) (posN o) then (pkS l o l.length, 0) else (0, 210) else (0, 90) else (0, 2) else (0, 211)
theorem Simulate_eq (o : List Int) (hol : o.length ≤ 4000) : d_memory_Simulate (l, o, ()) = some ((simE l o).1, (simE l o).2, ()) := by
  classical
  unfold d_memory_Simulate simE
  simp only [proper_eq hr hc, Option.bind_some, cond_not_dec, bneI]
  by_cases hp : Prp l
  rotate_left
  · rw [if_neg hp, if_neg hp]
  rw [if_pos hp, if_pos hp]
  have hn := hp.1
  by_cases hl : o.length = l.length
  rotate_left
  · rw [if_neg (show ¬ ((o.length : Nat) : Int) = ((l.length : Nat) : Int) by omega), if_neg hl]
  rw [if_pos (show ((o.length : Nat) : Int) = ((l.length : Nat) : Int) by omega), if_pos hl]
  simp only [Bool.not_true, cond_false, permutation_eq o hol, Option.bind_some, cond_not_dec, hl]
  by_cases ho : IsPerm o l.length
  rotate_left
  · rw [if_neg ho, if_neg ho]
  rw [if_pos ho, if_pos ho, processing_eq hp ho]
  simp only [Option.bind_some, cond_not_dec]
  by_cases hP : Proc l.length (prL l) (posN o)
  rotate_left
  · rw [if_neg hP, if_neg hP]
  rw [if_pos hP, if_pos hP]
  simp only [sizes_eq hp hr, children_eq hp, Option.bind_some]
  refine bindR (pkS l o l.length, ()) rfl (loop_seq l.length (fun k => (stS l o k, pkS l o k, (k : Int), ())) 0 rfl (Nat.zero_le _) ?_ ?_)
  · intro k _ hk
    obtain ⟨g1, g2⟩ := ho.get hk
    have b1 := stS_bd hp o k
    have b2 := kpE_le hp (ordN o k)
    have b3 := frE_le hp (ordN o k)
    have hgf : getI (fT l.length (fun i => (frE l i : Int))) ((ordN o k : Nat) : Int) = some (frE l (ordN o k) : Int) := getN_some (fT_get g2)
    have hgk : getI (fT l.length (fun i => (kpE l i : Int))) ((ordN o k : Nat) : Int) = some (kpE l (ordN o k) : Int) := getN_some (fT_get g2)
    have hgc : getI (fT l.length (kidsV (prL l) l.length)) ((ordN o k : Nat) : Int) = some (kidsV (prL l) l.length (ordN o k)) := getN_some (fT_get g2)
    have hkl := kidsV_length (prL l) l.length (ordN o k)
    have hmk : ∀ x ∈ kidsV (prL l) l.length (ordN o k), ∃ c : Nat, x = (c : Int) ∧ c < l.length := fun x hx => by obtain ⟨c, h1, h2, _⟩ := mem_kidsV.1 hx; exact ⟨c, h1, h2⟩
    have hsb : ∀ i, 0 ≤ ksum l ((kidsV (prL l) l.length (ordN o k)).take i) ∧ ksum l ((kidsV (prL l) l.length (ordN o k)).take i) ≤ 200 * 20100 := fun i => by
      obtain ⟨h1, h2⟩ := ksum_bd hp ((kidsV (prL l) l.length (ordN o k)).take i)
      have : ((kidsV (prL l) l.length (ordN o k)).take i).length ≤ 200 := by rw [List.length_take]; omega
      exact ⟨h1, by omega⟩
    simp (disch := omega) only [cond_dec, if_pos, g1, hgf, hgk, hgc, Option.bind_some]
    rw [show stS l o (k + 1) = stS l o k - ksum l (kidsV (prL l) l.length (ordN o k)) + (kpE l (ordN o k) : Int) from rfl,
      show pkS l o (k + 1) = if stS l o k + (frE l (ordN o k) : Int) > pkS l o k then stS l o k + (frE l (ordN o k) : Int) else pkS l o k from rfl]
    generalize kidsV (prL l) l.length (ordN o k) = K at *
    refine bindR (stS l o k - ksum l K, ()) ?_ (loop_seq K.length (fun i => (stS l o k - ksum l (K.take i), (i : Int), ())) 0 (by simp [ksum]) (Nat.zero_le _) ?_ ?_)
    · have h1 := hsb K.length
      rw [List.take_length] at h1
      have w1 : IntKind.i64.wrap (stS l o k - ksum l K + (kpE l (ordN o k) : Int)) = stS l o k - ksum l K + (kpE l (ordN o k) : Int) := by rw [wrap64] <;> omega
      have w2 : IntKind.i64.wrap (stS l o k + (frE l (ordN o k) : Int)) = stS l o k + (frE l (ordN o k) : Int) := by rw [wrap64] <;> omega
      simp (disch := omega) only [w1, w2, wrap_inc]
    · intro i _ hi
      obtain ⟨c, hc1, hc2⟩ := hmk _ (List.getElem_mem hi)
      have hgi : getI K (i : Int) = some (c : Int) := getN_some (by rw [List.getElem?_eq_getElem hi, hc1])
      have hgq : getI (fT l.length (fun i => (kpE l i : Int))) (c : Int) = some (kpE l c : Int) := getN_some (fT_get hc2)
      have h1 := hsb i
      have h2 := kpE_le hp c
      have w1 : IntKind.i64.wrap (stS l o k - ksum l (K.take i) - (kpE l c : Int)) = stS l o k - ksum l (K.take i) - (kpE l c : Int) := by rw [wrap64] <;> omega
      simp (disch := omega) only [cond_dec, if_pos, hgi, hgq, Option.bind_some, w1, wrap_inc]
      rw [← take_snoc hi, ksum_append, hc1, ksum_one]
      refine congrArg (fun a => some (Sum.inl (a, ((i + 1 : Nat) : Int), ()))) ?_
      omega
    · simp (disch := omega) only [cond_dec, if_neg, List.take_length]
  · simp (disch := omega) only [cond_dec, if_neg]
theorem refSimulate_eq (o : List Int) (hol : o.length ≤ 4000) : d_sparseref22q_Simulate (l, o, ()) = some ((simE l o).1, (simE l o).2, ()) := by
  classical
  unfold d_sparseref22q_Simulate simE
  simp only [refProper_eq hr hc, Option.bind_some, cond_not_dec, bneI]
  by_cases hp : Prp l
  rotate_left
  · rw [if_neg hp, if_neg hp]
  rw [if_pos hp, if_pos hp]
  have hn := hp.1
  by_cases hl : o.length = l.length
  rotate_left
  · rw [if_neg (show ¬ ((o.length : Nat) : Int) = ((l.length : Nat) : Int) by omega), if_neg hl]
  rw [if_pos (show ((o.length : Nat) : Int) = ((l.length : Nat) : Int) by omega), if_pos hl]
  simp only [Bool.not_true, cond_false, Perm_eq o l.length (show l.length ≤ 4294967296 by omega), Option.bind_some, cond_not_dec, hl]
  by_cases ho : IsPerm o l.length
  rotate_left
  · rw [if_neg ho, if_neg ho]
  rw [if_pos ho, if_pos ho, refProcessing_eq hp ho]
  simp only [Option.bind_some, cond_not_dec]
  by_cases hP : Proc l.length (prL l) (posN o)
  rotate_left
  · rw [if_neg hP, if_neg hP]
  rw [if_pos hP, if_pos hP]
  simp only [refSizes22_eq hp hr, Option.bind_some]
  have hf := prL_pf hp
  refine bindR (pkS l o l.length, ()) rfl (loop_seq l.length (fun k => (stS l o k, pkS l o k, (k : Int), ())) 0 rfl (Nat.zero_le _) ?_ ?_)
  · intro k _ hk
    obtain ⟨g1, g2⟩ := ho.get hk
    have b1 := stS_bd hp o k
    have b2 := kpE_le hp (ordN o k)
    have b3 := frE_le hp (ordN o k)
    have hgf : getI (fT l.length (fun i => (frE l i : Int))) ((ordN o k : Nat) : Int) = some (frE l (ordN o k) : Int) := getN_some (fT_get g2)
    have hgk : getI (fT l.length (fun i => (kpE l i : Int))) ((ordN o k : Nat) : Int) = some (kpE l (ordN o k) : Int) := getN_some (fT_get g2)
    have hsb : ∀ i, i ≤ l.length → 0 ≤ ksum l (kidsV (prL l) i (ordN o k)) ∧ ksum l (kidsV (prL l) i (ordN o k)) ≤ 200 * 20100 := fun i hi => by
      obtain ⟨h1, h2⟩ := ksum_bd hp (kidsV (prL l) i (ordN o k))
      have := kidsV_length (prL l) i (ordN o k)
      exact ⟨h1, by omega⟩
    simp (disch := omega) only [cond_dec, if_pos, g1, hgf, hgk, Option.bind_some]
    rw [show stS l o (k + 1) = stS l o k - ksum l (kidsV (prL l) l.length (ordN o k)) + (kpE l (ordN o k) : Int) from rfl,
      show pkS l o (k + 1) = if stS l o k + (frE l (ordN o k) : Int) > pkS l o k then stS l o k + (frE l (ordN o k) : Int) else pkS l o k from rfl]
    rw [kidsV_ext hf (show ordN o k ≤ l.length by omega)]
    generalize ordN o k = v at *
    refine bindR (stS l o k - ksum l (kidsV (prL l) v v), ()) ?_ (loop_seq v (fun i => (stS l o k - ksum l (kidsV (prL l) i v), (i : Int), ())) 0 (by simp [ksum, kidsV]) (Nat.zero_le _) ?_ ?_)
    · have h1 := hsb v (by omega)
      have w1 : IntKind.i64.wrap (stS l o k - ksum l (kidsV (prL l) v v) + (kpE l v : Int)) = stS l o k - ksum l (kidsV (prL l) v v) + (kpE l v : Int) := by rw [wrap64] <;> omega
      have w2 : IntKind.i64.wrap (stS l o k + (frE l v : Int)) = stS l o k + (frE l v : Int) := by rw [wrap64] <;> omega
      simp (disch := omega) only [w1, w2, wrap_inc]
    · intro i _ hi
      have hil : i < l.length := by omega
      have hgl : getI l (i : Int) = some l[i] := getN_some (List.getElem?_eq_getElem hil)
      have hpar := (hp.at hil).2.2.2.2
      have hgq : getI (fT l.length (fun i => (kpE l i : Int))) (i : Int) = some (kpE l i : Int) := getN_some (fT_get hil)
      have h1 := hsb i (by omega)
      have h2 := kpE_le hp i
      simp (disch := omega) only [cond_dec, if_pos, hgl, Option.bind_some, hpar, kidsV_succ]
      by_cases e : prL l i = (v : Int)
      · rw [if_pos e, e, ksum_append, ksum_one]
        have w1 : IntKind.i64.wrap (stS l o k - ksum l (kidsV (prL l) i v) - (kpE l i : Int)) = stS l o k - ksum l (kidsV (prL l) i v) - (kpE l i : Int) := by rw [wrap64] <;> omega
        simp (disch := omega) only [beq_self_eq_true, cond_true, hgq, Option.bind_some, w1, wrap_inc]
        refine congrArg (fun a => some (Sum.inl (a, ((i + 1 : Nat) : Int), ()))) ?_
        omega
      · rw [if_neg e, List.append_nil, show (prL l i == (v : Int)) = false by simpa using e]
        simp (disch := omega) only [cond_false, Option.bind_some, wrap_inc]
    · simp (disch := omega) only [cond_dec, if_neg]
  · simp (disch := omega) only [cond_dec, if_neg]
end
end Go.Fw
end

section
namespace Go.Fw
set_option linter.unusedSimpArgs false
set_option linter.unusedVariables false
open Go
def liu (K : Nat → Int) (a b : Nat) : Prop := K b < K a ∨ (K a = K b ∧ a < b)
theorem liu.asym {K : Nat → Int} (a b : Nat) (h : liu K a b) : ¬ liu K b a := by
  unfold liu at *; omega
theorem liu.trans {K : Nat → Int} {a b c : Nat} (h : liu K a b) (h2 : liu K b c) : liu K a c := by
  unfold liu at *; omega
structure IsSrt (n : Nat) (f : Nat → Int) (K : Nat → Int) (p : Int) (s : List Nat) : Prop where
  srt : s.Pairwise (liu K)
  mem : ∀ x, x ∈ s ↔ x < n ∧ f x = p
theorem IsSrt.uniq {n : Nat} {f K : Nat → Int} {p : Int} {s t : List Nat} (h : IsSrt n f K p s) (h' : IsSrt n f K p t) : s = t := pw_ext liu.asym h.srt h'.srt fun x => by rw [h.mem, h'.mem]
theorem IsSrt.nodup {n : Nat} {f K : Nat → Int} {p : Int} {s : List Nat} (h : IsSrt n f K p s) : s.Nodup := List.nodup_iff_pairwise_ne.2 (h.srt.imp fun h e => by subst e; exact liu.asym _ _ h h)
theorem IsSrt.len {n : Nat} {f K : Nat → Int} {p : Int} {s : List Nat} (h : IsSrt n f K p s) : s.length ≤ n := nodup_le h.nodup fun x hx => ((h.mem x).1 hx).1
open Classical in
noncomputable def srtK (n : Nat) (f K : Nat → Int) (p : Int) : List Nat := if h : ∃ s, IsSrt n f K p s then h.choose else []
theorem IsSrt.eq {n : Nat} {f K : Nat → Int} {p : Int} {s : List Nat} (h : IsSrt n f K p s) : srtK n f K p = s := by
  unfold srtK
  rw [dif_pos ⟨s, h⟩]
  exact (Exists.choose_spec (p := fun s => IsSrt n f K p s) ⟨s, h⟩).uniq h
theorem get_mid {A : List Nat} {X : Int} {B : List Int} : (natL A ++ X :: B)[A.length]? = some X := by
  rw [List.getElem?_append_right (by rw [natL_length]; omega), natL_length, Nat.sub_self]; rfl
theorem set_mid {A : List Nat} {X Y : Int} {B : List Int} : (natL A ++ X :: B).set A.length Y = natL A ++ Y :: B := by
  rw [List.set_append_right _ _ (by rw [natL_length]; omega), natL_length, Nat.sub_self]; rfl
theorem get_prev {A : List Nat} {y : Nat} {B : List Int} : (natL (A ++ [y]) ++ B)[A.length]? = some (y : Int) := by
  rw [natL_append, List.append_assoc]
  exact get_mid (A := A) (X := (y : Int)) (B := B)
theorem IsSrt.put {n : Nat} {f K : Nat → Int} {p : Int} {A B : List Nat} {c : Nat} (hs : (A ++ B).Pairwise (liu K)) (hm : ∀ x, x ∈ A ++ B ↔ x < c ∧ f x = p) (hc : f c = p)
    (hB : ∀ y ∈ B, K y < K c) (hA : ∀ A' y, A = A' ++ [y] → ¬ K y < K c) : (A ++ c :: B).Pairwise (liu K) ∧ ∀ x, x ∈ A ++ c :: B ↔ x < c + 1 ∧ f x = p := by
  have hlt : ∀ x ∈ A ++ B, x < c := fun x hx => ((hm x).1 hx).1
  have hAc : ∀ a ∈ A, liu K a c := by
    intro a ha
    rcases List.eq_nil_or_concat A with h | ⟨A', y, h⟩
    · subst h; cases ha
    · rw [List.concat_eq_append] at h
      have h1 := hA A' y h
      have hac := hlt a (List.mem_append_left _ ha)
      subst h
      rcases List.mem_append.1 ha with h2 | h2
      · have h3 := (List.pairwise_append.1 (List.pairwise_append.1 hs).1).2.2 a h2 y (List.mem_singleton_self y)
        unfold liu at *; omega
      · rw [List.mem_singleton] at h2
        subst h2
        unfold liu; omega
  obtain ⟨p1, p2, p3⟩ := List.pairwise_append.1 hs
  refine ⟨List.pairwise_append.2 ⟨p1, List.pairwise_cons.2 ⟨fun y hy => .inl (hB y hy), p2⟩, fun a ha b hb => ?_⟩, fun x => ?_⟩
  · rcases List.mem_cons.1 hb with rfl | hb
    · exact hAc a ha
    · exact p3 a ha b hb
  · have hmx := hm x
    rw [List.mem_append] at hmx
    rw [List.mem_append, List.mem_cons]
    constructor
    · rintro (h | rfl | h)
      · have := hmx.1 (.inl h); exact ⟨by omega, this.2⟩
      · exact ⟨by omega, hc⟩
      · have := hmx.1 (.inr h); exact ⟨by omega, this.2⟩
    · rintro ⟨h1, h2⟩
      rcases Nat.lt_or_ge x c with h3 | h3
      · rcases hmx.2 ⟨h3, h2⟩ with h | h
        · exact .inl h
        · exact .inr (.inr h)
      · obtain rfl : x = c := by omega
        exact .inr (.inl rfl)
section
variable {l : List FrT} (hp : Prp l)
include hp
end
def liuI (K : Nat → Int) (x y : Int) : Prop := K y.toNat < K x.toNat ∨ (K x.toNat = K y.toNat ∧ x < y)
instance (K : Nat → Int) (x y : Int) : Decidable (liuI K x y) := by unfold liuI; exact inferInstance
end Go.Fw
end

section
namespace Go.Fw
set_option linter.unusedSimpArgs false
set_option linter.unusedVariables false
open Go
def KidsP (n : Nat) (f : Nat → Int) (S : Nat → List Nat) : Prop := ∀ v, v < n → (S v).Nodup ∧ ∀ x, x ∈ S v ↔ x < n ∧ f x = (v : Int)
def pst (S : Nat → List Nat) : Nat → Nat → List Nat
  | 0, _ => []
  | d + 1, v => ((S v).map (pst S d)).flatten ++ [v]
def pS (S : Nat → List Nat) (v : Nat) : List Nat := pst S (v + 1) v
def blw (S : Nat → List Nat) (v : Nat) : List Nat := ((S v).map (pS S)).flatten
theorem take_succ_flat' {S : Nat → List Nat} {L : List Nat} {i : Nat} (hi : i < L.length) : ((L.take (i + 1)).map (pS S)).flatten = ((L.take i).map (pS S)).flatten ++ pS S L[i] := by
  rw [← take_snoc hi, List.map_append, List.flatten_append]
  simp
section
variable {n : Nat} {f : Nat → Int} (hf : PF n f) {S : Nat → List Nat} (hS : KidsP n f S)
include hf hS
theorem KidsP.lt {v c : Nat} (hv : v < n) (h : c ∈ S v) : c < v := by
  obtain ⟨h1, h2⟩ := ((hS v hv).2 c).1 h
  have := hf c h1
  omega
theorem pst_eq : ∀ v d, v < d → v < n → pst S d v = pS S v := by
  intro v
  induction v using Nat.strongRecOn with
  | ind v ih =>
    intro d hd hv
    obtain ⟨d, rfl⟩ : ∃ e, d = e + 1 := ⟨d - 1, by omega⟩
    unfold pS
    simp only [pst]
    congr 2
    refine List.map_congr_left fun c hc => ?_
    have hcv := KidsP.lt hf hS hv hc
    rw [ih c hcv d (by omega) (by omega), ih c hcv v hcv (by omega)]
theorem pS_eq {v : Nat} (hv : v < n) : pS S v = blw S v ++ [v] := by
  unfold blw
  conv => lhs; unfold pS
  simp only [pst]
  congr 2
  exact List.map_congr_left fun c hc => pst_eq hf hS c v (KidsP.lt hf hS hv hc) (by have := KidsP.lt hf hS hv hc; omega)
theorem mem_pS : ∀ v, v < n → ∀ u, u ∈ pS S v ↔ Sub n f u v := by
  intro v
  induction v using Nat.strongRecOn with
  | ind v ih =>
    intro hv u
    rw [pS_eq hf hS hv]
    unfold blw
    simp only [List.mem_append, List.mem_flatten, List.mem_map, List.mem_singleton]
    rw [Sub.last_iff]
    constructor
    · rintro (⟨_, ⟨c, hc, rfl⟩, hu⟩ | rfl)
      · have hcv := KidsP.lt hf hS hv hc
        have hc2 := ((hS v hv).2 c).1 hc
        exact .inr ⟨c, (ih c hcv (by omega) u).1 hu, hc2⟩
      · exact .inl rfl
    · rintro (rfl | ⟨c, h1, h2⟩)
      · exact .inr rfl
      · have hc : c ∈ S v := ((hS v hv).2 c).2 h2
        have hcv := KidsP.lt hf hS hv hc
        exact .inl ⟨_, ⟨c, hc, rfl⟩, (ih c hcv (by omega) u).2 h1⟩
theorem flat_nodup {L : List Nat} (hd : L.Nodup) (hp : ∀ c ∈ L, (pS S c).Nodup) (ha : ∀ c ∈ L, ∀ c' ∈ L, ∀ u, u ∈ pS S c → u ∈ pS S c' → c = c') : ((L.map (pS S)).flatten).Nodup := by
  rw [List.nodup_iff_pairwise_ne, List.pairwise_flatten]
  refine ⟨fun l hl => ?_, ?_⟩
  · obtain ⟨c, hc, rfl⟩ := List.mem_map.1 hl
    exact List.nodup_iff_pairwise_ne.1 (hp c hc)
  · rw [List.pairwise_map]
    rw [List.pairwise_iff_getElem]
    intro i j hi hj hij x hx y hy e
    subst e
    have h1 := ha _ (List.getElem_mem hi) _ (List.getElem_mem hj) x hx hy
    have := (List.getElem_inj hd).1 h1
    omega
theorem pS_nodup : ∀ v, v < n → (pS S v).Nodup := by
  intro v
  induction v using Nat.strongRecOn with
  | ind v ih =>
    intro hv
    rw [pS_eq hf hS hv]
    have hk : ∀ c ∈ S v, c < v ∧ RelF n f c v := fun c hc => ⟨KidsP.lt hf hS hv hc, ((hS v hv).2 c).1 hc⟩
    refine List.nodup_append.2 ⟨flat_nodup hf hS (hS v hv).1 (fun c hc => ih c (hk c hc).1 (by have := hk c hc; omega)) (fun c hc c' hc' u hu hu' => ?_), by simp, fun a ha b hb e => ?_⟩
    · have h1 := (mem_pS hf hS c (by have := hk c hc; omega) u).1 hu
      have h2 := (mem_pS hf hS c' (by have := hk c' hc'; omega) u).1 hu'
      exact sub_apart hf (hk c hc).2 (hk c' hc').2 h1 h2
    · rw [List.mem_singleton] at hb
      subst hb; subst e
      obtain ⟨_, h1, h2⟩ := List.mem_flatten.1 ha
      obtain ⟨c, hc, rfl⟩ := List.mem_map.1 h1
      have h3 := (mem_pS hf hS c (by have := hk c hc; omega) a).1 h2
      have := (Sub.le hf h3).1
      have := (hk c hc).1
      omega
theorem all_ok {R : List Nat} (hd : R.Nodup) (hR : ∀ x, x ∈ R ↔ x < n ∧ f x = -1) : ((R.map (pS S)).flatten).Nodup ∧ (∀ u, u ∈ (R.map (pS S)).flatten ↔ u < n) ∧ ((R.map (pS S)).flatten).length = n := by
  have h1 : ((R.map (pS S)).flatten).Nodup := flat_nodup hf hS hd (fun c hc => pS_nodup hf hS c ((hR c).1 hc).1) (fun c hc c' hc' u hu hu' =>
    root_apart hf ((hR c).1 hc).1 ((hR c').1 hc').1 ((hR c).1 hc).2 ((hR c').1 hc').2 ((mem_pS hf hS c ((hR c).1 hc).1 u).1 hu) ((mem_pS hf hS c' ((hR c').1 hc').1 u).1 hu'))
  have h2 : ∀ u, u ∈ (R.map (pS S)).flatten ↔ u < n := fun u => by
    simp only [List.mem_flatten, List.mem_map]
    constructor
    · rintro ⟨_, ⟨r, hr, rfl⟩, hu⟩
      have := (Sub.le hf ((mem_pS hf hS r ((hR r).1 hr).1 u).1 hu)).1
      have := ((hR r).1 hr).1
      omega
    · intro hu
      obtain ⟨r, r1, r2, r3⟩ := root_of hf n u hu (by omega)
      exact ⟨_, ⟨r, (hR r).2 ⟨r1, r2⟩, rfl⟩, (mem_pS hf hS r r1 u).2 r3⟩
  refine ⟨h1, h2, Nat.le_antisymm (nodup_le h1 fun x hx => (h2 x).1 hx) ?_⟩
  have := subset_le (l := List.range n) (m := (R.map (pS S)).flatten) List.nodup_range (fun x hx => (h2 x).2 (List.mem_range.1 hx))
  simpa using this
end
def kpF (l : List FrT) (v : Nat) : Int := (kpE l v : Int)
def cst (pk kp : Nat → Int) (s : List Nat) : Int × Int := s.foldl (fun q c => (if q.2 + pk c > q.1 then q.2 + pk c else q.1, q.2 + kp c)) (0, 0)
theorem cst_succ (pk kp : Nat → Int) {s : List Nat} {i : Nat} (h : i < s.length) : cst pk kp (s.take (i + 1)) = (if (cst pk kp (s.take i)).2 + pk s[i] > (cst pk kp (s.take i)).1 then (cst pk kp (s.take i)).2 + pk s[i] else (cst pk kp (s.take i)).1, (cst pk kp (s.take i)).2 + kp s[i]) := by
  unfold cst
  rw [← take_snoc h, List.foldl_append]
  rfl
def finP (q : Int × Int) (fr : Int) : Int := if q.2 + fr > q.1 then q.2 + fr else q.1
section
variable {l : List FrT} (hp : Prp l)
include hp
theorem kpF_bd (v : Nat) : 0 ≤ kpF l v ∧ kpF l v ≤ 20100 := by
  have := kpE_le hp v
  unfold kpF; omega
end
end Go.Fw
end

section
namespace Go.Fw
set_option linter.unusedSimpArgs false
set_option linter.unusedVariables false
open Go
theorem flat_take_le {S : Nat → List Nat} (s : List Nat) (i : Nat) : (((s.take i).map (pS S)).flatten).length ≤ ((s.map (pS S)).flatten).length := by
  conv => rhs; rw [← List.take_append_drop i s, List.map_append, List.flatten_append, List.length_append]
  omega
section
variable {l : List FrT} (hp : Prp l)
include hp
end
end Go.Fw
end

section
namespace Go.Fw
set_option linter.unusedSimpArgs false
set_option linter.unusedVariables false
open Go
def atV (l : List Int) (v : Nat) : Int := (l[v]?).getD 0
theorem At_eq (l : List Int) (v : Nat) : d_sparsemake_At (l, (v : Int), ()) = some (atV l v, ()) := by
  unfold d_sparsemake_At atV
  simp only [cond_dec]
  by_cases h : v < l.length
  · have hg : getI l (v : Int) = some l[v] := getN_some (List.getElem?_eq_getElem h)
    rw [if_pos (by omega), hg, List.getElem?_eq_getElem h]; rfl
  · rw [if_neg (by omega), List.getElem?_eq_none (by omega)]; rfl
def treeF (n : Nat) (l : List Int) (v : Nat) : Int := if placeV (atV l v) ((n : Int) - v) = 0 then -1 else (v : Int) + placeV (atV l v) ((n : Int) - v)
theorem treeF_pf (n : Nat) (l : List Int) : PF n (treeF n l) := fun i hi => by
  unfold treeF
  have := placeV_lt (atV l i) ((n : Int) - i) (by omega)
  split
  · exact .inl rfl
  · exact .inr (by omega)
theorem Tree_eq {n : Nat} (hn : n ≤ 200) (l : List Int) : d_sparsemake_Tree ((n : Int), l, ()) = some (fT n (treeF n l), ()) := by
  unfold d_sparsemake_Tree
  refine bindR (fT n (treeF n l), ()) rfl (loop_for n (fun i => (fT i (treeF n l), ())) 0 rfl rfl (Nat.zero_le _) ?_ ?_)
  · intro v _ hv
    have hb := placeV_lt (atV l v) ((n : Int) - v) (by omega)
    have hw : IntKind.i64.wrap ((n : Int) - (v : Int)) = (n : Int) - v := by rw [wrap64] <;> omega
    have hw2 : IntKind.i64.wrap ((v : Int) + placeV (atV l v) ((n : Int) - v)) = (v : Int) + placeV (atV l v) ((n : Int) - v) := by rw [wrap64] <;> omega
    have hpl : d_sparsekit_Place (atV l v, (n : Int) - (v : Int), ()) = some (placeV (atV l v) ((n : Int) - v), ()) := Place_eq _ _ (by omega) (by omega)
    have hlen : ∀ x : Int, (fT v (treeF n l)).length + [x].length ≤ 4294967296 := fun x => by rw [fT_length, List.length_singleton]; omega
    simp (disch := omega) only [cond_dec, if_pos, At_eq, Option.bind_some, hw, hpl, hw2, beqI]
    rw [fT_succ]
    by_cases e : placeV (atV l v) ((n : Int) - v) = 0
    · rw [if_pos (show (v : Int) + placeV (atV l v) ((n : Int) - v) = v by omega)]
      have e2 : treeF n l v = -1 := if_pos e
      simp (disch := omega) only [Option.bind_some, limO_ok (hlen _), e2, wrap_inc]
    · rw [if_neg (show ¬ (v : Int) + placeV (atV l v) ((n : Int) - v) = v by omega)]
      have e2 : treeF n l v = (v : Int) + placeV (atV l v) ((n : Int) - v) := if_neg e
      simp (disch := omega) only [Option.bind_some, limO_ok (hlen _), e2, wrap_inc]
  · simp (disch := omega) only [cond_dec, if_neg]
def colN (s : List Int) (v : Nat) : Nat := 1 + (placeV (atV s (2 * v)) 3).toNat
def rowN (s : List Int) (v : Nat) : Nat := colN s v + (placeV (atV s (2 * v + 1)) 6).toNat
def frN (n : Nat) (l s : List Int) (v : Nat) : FrT := ((10 * v : Nat), ((10 * v + colN s v : Nat)), List.replicate (rowN s v) (0 : Int), treeF n l v, ())
def forE (n : Nat) (l s : List Int) : List FrT := fT n (frN n l s)
theorem rowN_le (s : List Int) (v : Nat) : 1 ≤ colN s v ∧ colN s v ≤ 3 ∧ colN s v ≤ rowN s v ∧ rowN s v ≤ 8 := by
  have h1 := placeV_lt (atV s (2 * v)) 3 (by omega)
  have h2 := placeV_lt (atV s (2 * v + 1)) 6 (by omega)
  unfold rowN colN; omega
theorem forest_eq {n : Nat} (hn : n ≤ 200) (l s : List Int) : d_sparselaw22q_forest ((n : Int), l, s, ()) = some (forE n l s, ()) := by
  unfold d_sparselaw22q_forest
  simp only [Tree_eq hn, Option.bind_some]
  refine bindR (forE n l s, ()) rfl (loop_for n (fun i => (fT i (frN n l s), ())) 0 rfl rfl (Nat.zero_le _) ?_ ?_)
  · intro v _ hv
    have h1 := placeV_lt (atV s (2 * v)) 3 (by omega)
    have h2 := placeV_lt (atV s (2 * v + 1)) 6 (by omega)
    have w1 : IntKind.i64.wrap (2 * (v : Int)) = ((2 * v : Nat) : Int) := by rw [wrap64] <;> omega
    have w2 : IntKind.i64.wrap (((2 * v : Nat) : Int) + 1) = ((2 * v + 1 : Nat) : Int) := by rw [wrap64] <;> omega
    have w3 : IntKind.i64.wrap (10 * (v : Int)) = ((10 * v : Nat) : Int) := by rw [wrap64] <;> omega
    have w4 : IntKind.i64.wrap (1 + placeV (atV s (2 * v)) 3) = ((colN s v : Nat) : Int) := by unfold colN; rw [wrap64] <;> omega
    have w5 : IntKind.i64.wrap (((colN s v : Nat) : Int) + placeV (atV s (2 * v + 1)) 6) = ((rowN s v : Nat) : Int) := by have := rowN_le s v; unfold rowN at *; rw [wrap64] <;> omega
    have w6 : IntKind.i64.wrap (((10 * v : Nat) : Int) + ((colN s v : Nat) : Int)) = ((10 * v + colN s v : Nat) : Int) := by have := rowN_le s v; rw [wrap64] <;> omega
    have hrw := rowN_le s v
    have hlen : ∀ x : FrT, (fT v (frN n l s)).length + [x].length ≤ 4294967296 := fun x => by rw [fT_length, List.length_singleton]; omega
    simp (disch := omega) only [cond_dec, if_pos, w1, w2, At_eq, Option.bind_some, Place_eq, w3, w4, w5, w6, madeO_ok, getI_fT, limO_ok (hlen _), wrap_inc]
    rw [fT_succ]
    rfl
  · simp (disch := omega) only [cond_dec, if_neg]
    rfl
section
variable {n : Nat} (hn : n ≤ 200) (l s : List Int)
include hn
theorem forE_length : (forE n l s).length = n := fT_length ..
theorem forE_get {v : Nat} (hv : v < n) : (forE n l s)[v]? = some (frN n l s v) := fT_get hv
theorem forE_mem {x : FrT} (h : x ∈ forE n l s) : ∃ v, v < n ∧ x = frN n l s v := by
  obtain ⟨i, hi, rfl⟩ := List.mem_iff_getElem.1 h
  have hv : i < n := by rw [forE_length hn l s] at hi; exact hi
  refine ⟨i, hv, ?_⟩
  have := forE_get hn l s hv
  rw [List.getElem?_eq_getElem hi] at this
  exact Option.some.inj this
theorem forE_prp : Prp (forE n l s) := by
  refine ⟨by rw [forE_length hn]; omega, fun i hi => ?_⟩
  have hv : i < n := by rw [forE_length hn l s] at hi; exact hi
  have e := forE_get hn l s hv
  rw [List.getElem?_eq_getElem hi] at e
  rw [Option.some.inj e, forE_length hn]
  have h1 := rowN_le s i
  have h2 := treeF_pf n l i hv
  refine ⟨?_, ?_, ?_, ?_⟩
  · show (List.replicate (rowN s i) (0 : Int)).length ≤ 200
    rw [List.length_replicate]; omega
  · show ((10 * i : Nat) : Int) < ((10 * i + colN s i : Nat) : Int)
    omega
  · show ((10 * i + colN s i : Nat) : Int) - ((10 * i : Nat) : Int) ≤ ((List.replicate (rowN s i) (0 : Int)).length : Int)
    rw [List.length_replicate]; omega
  · exact h2
theorem forE_inR : ∀ x ∈ forE n l s, InR x := fun x hx => by
  obtain ⟨v, hv, rfl⟩ := forE_mem hn l s hx
  have h1 := rowN_le s v
  show (-9223372036854775808 ≤ ((10 * v : Nat) : Int) ∧ ((10 * v : Nat) : Int) ≤ 9223372036854775807) ∧ (-9223372036854775808 ≤ ((10 * v + colN s v : Nat) : Int) ∧ ((10 * v + colN s v : Nat) : Int) ≤ 9223372036854775807)
  omega
theorem forE_rows : ∀ x ∈ forE n l s, x.2.2.1.length < 4611686018427387904 := fun x hx => by
  obtain ⟨v, hv, rfl⟩ := forE_mem hn l s hx
  have h1 := rowN_le s v
  show (List.replicate (rowN s v) (0 : Int)).length < _
  rw [List.length_replicate]; omega
end
section
variable {l : List FrT} (hp : Prp l) (keys : List Int)
include hp
theorem walk_body {f_ : (List FrT × Int × List Int × List Int × Unit) → Option (List Int × Unit)} (p : Int) (S : Nat → List Nat)
    (hs : ∀ c, c < l.length → prL l c = p → pS S c = blw S c ++ [c])
    (hrec : ∀ c, c < l.length → prL l c = p → ∀ out : List Nat, out.length + (blw S c).length ≤ 4294967296 → f_ (l, (c : Int), keys, natL out, ()) = some (natL (out ++ blw S c), ()))
    (out : List Nat) {L : List Nat} (hL : IsSrt l.length (prL l) (fun v => - atV keys v) p L) (hlen : out.length + ((L.map (pS S)).flatten).length ≤ 4294967296) :
    r_sparselaw22q_walkq_s f_ (l, p, keys, natL out, ()) = some (natL (out ++ (L.map (pS S)).flatten), ()) := by
  have hn := hp.1
  unfold r_sparselaw22q_walkq_s
  refine bindR (natL out, natL L, ()) ?_ ?_
  · have hLl := hL.len
    refine bindR (natL (out ++ (L.map (pS S)).flatten), ()) rfl (loop_for L.length (fun i => (natL (out ++ ((L.take i).map (pS S)).flatten), natL L, ())) 0 rfl (by simp) (Nat.zero_le _) ?_ ?_)
    · intro i _ hi
      have hb := flat_take_le (S := S) L (i + 1)
      obtain ⟨hc1, hc2⟩ := (hL.mem _).1 (List.getElem_mem hi)
      rw [take_succ_flat' hi, hs _ hc1 hc2, List.length_append, List.length_append, List.length_singleton] at hb
      have hgi : (natL L)[i]? = some ((L[i] : Nat) : Int) := by simp [natL, hi]
      simp (disch := omega) only [cond_dec, natL_length, if_pos, idxN_nat, Option.bind_some, atO_some hgi]
      rw [hrec _ hc1 hc2 _ (by rw [List.length_append]; omega)]
      simp (disch := first | omega | (simp only [natL_length, List.length_append, List.length_singleton]; omega)) only [Option.bind_some, limO_ok, wrap_inc]
      rw [take_succ_flat' hi, hs _ hc1 hc2, natL_append, ← List.append_assoc, ← List.append_assoc, natL_append, natL_append]
      simp [natL]
    · simp (disch := omega) only [cond_dec, natL_length, if_neg, List.take_length]
  · rw [← Ok.eq_iff]
    refine Ok.mono (P := fun r => ∃ s, IsSrt l.length (prL l) (fun v => - atV keys v) p s ∧ r = (natL out, natL s, ())) ?_ (fun r ⟨s, h1, h2⟩ => by rw [h2, h1.uniq hL])
    refine Ok.for l.length (fun c t => ∃ s : List Nat, t = (natL out, natL s, ()) ∧ s.Pairwise (liu fun v => - atV keys v) ∧ ∀ x, x ∈ s ↔ x < c ∧ prL l x = p) (i0 := 0) rfl ⟨[], rfl, by simp, fun x => by simp⟩ (Nat.zero_le _) ?_ ?_
    · rintro c _ _ hc ⟨s, rfl, hs1, hs2⟩
      have hg : getI l (c : Int) = some l[c] := getN_some (List.getElem?_eq_getElem hc)
      have hpar := (hp.at hc).2.2.2.2
      have hsl : s.length ≤ c := nodup_le (List.nodup_iff_pairwise_ne.2 (hs1.imp fun h e => by subst e; exact liu.asym _ _ h h)) fun x hx => ((hs2 x).1 hx).1
      simp (disch := omega) only [cond_dec, if_pos, hg, Option.bind_some, hpar, bneI]
      by_cases hpp : prL l c = p
      · rw [decT hpp]
        simp (disch := first | omega | (simp [natL_length]; omega)) only [Bool.not_true, cond_false, limO_ok, Option.bind_some]
        refine Ok.bind_of (P := fun r => ∃ A B : List Nat, r = (natL out, natL (A ++ c :: B), ()) ∧ s = A ++ B ∧ (∀ y ∈ B, - atV keys y < - atV keys c) ∧ ∀ A' y, A = A' ++ [y] → ¬ - atV keys y < - atV keys c) ?_ ?_
        · refine Ok.bind_of (P := fun r => ∃ (A B : List Nat) (X : Int), r = ((A.length : Int), natL out, natL A ++ X :: natL B, ()) ∧ s = A ++ B ∧ (∀ y ∈ B, - atV keys y < - atV keys c) ∧ ∀ A' y, A = A' ++ [y] → ¬ - atV keys y < - atV keys c) ?_ ?_
          · refine Ok.loop (fun t => ∃ (A B : List Nat) (X : Int), t = ((A.length : Int), natL out, natL A ++ X :: natL B, ()) ∧ s = A ++ B ∧ ∀ y ∈ B, - atV keys y < - atV keys c) (fun t => t.1.toNat) ⟨s, [], (c : Int), by rw [natL_length]; rfl, by simp, by simp⟩ ?_
            rintro _ ⟨A, B, X, rfl, hAB, hB⟩
            simp only [cond_dec_beq]
            rcases List.eq_nil_or_concat A with h | ⟨A', y, h⟩
            · subst h
              rw [if_neg (by simp)]
              exact Ok.some_iff.2 ⟨[], B, X, rfl, hAB, hB, fun A' y h => by simp at h⟩
            · rw [List.concat_eq_append] at h
              subst h
              have hla : (A' ++ [y]).length = A'.length + 1 := by simp
              rw [if_pos (by rw [hla]; omega)]
              have hlen : (natL (A' ++ [y]) ++ X :: natL B).length = A'.length + 1 + 1 + B.length := by simp [natL_length]; omega
              have hAl : A'.length ≤ 200 := by
                have : s.length = A'.length + 1 + B.length := by rw [hAB]; simp; omega
                omega
              have hBl : B.length ≤ 200 := by
                have : s.length = A'.length + 1 + B.length := by rw [hAB]; simp; omega
                omega
              simp (disch := omega) only [hla, hlen, wrap_pred, Nat.add_sub_cancel, idxN_nat, Option.bind_some, atO_some (get_prev (A := A') (y := y)), At_eq, cond_dec]
              by_cases hk : - atV keys y < - atV keys c
              · rw [if_pos (by omega)]
                simp (disch := omega) only [hla, hlen, wrap_pred, Nat.add_sub_cancel, idxN_nat, Option.bind_some, atO_some (get_prev (A := A') (y := y))]
                have e1 : (natL (A' ++ [y]) ++ X :: natL B)[A'.length + 1]? = some X := by rw [← hla]; exact get_mid
                have e2 : (natL (A' ++ [y]) ++ X :: natL B).set (A'.length + 1) (y : Int) = natL A' ++ (y : Int) :: natL (y :: B) := by
                  rw [← hla, set_mid, natL_append, List.append_assoc]; rfl
                simp only [atO_some e1, Option.bind_some, e2]
                refine Ok.some_iff.2 ⟨⟨A', y :: B, (y : Int), rfl, by rw [hAB]; simp, fun z hz => ?_⟩, by simp only [Int.toNat_natCast]; omega⟩
                rcases List.mem_cons.1 hz with rfl | hz
                · exact hk
                · exact hB z hz
              · rw [if_neg (by omega)]
                simp only [Option.bind_some]
                refine Ok.some_iff.2 ⟨A' ++ [y], B, X, by rw [hla], hAB, hB, fun A2 y2 h => ?_⟩
                obtain ⟨h1, h2⟩ := List.append_inj' h rfl
                simp only [List.cons.injEq, and_true] at h2
                subst h2
                exact hk
          · rintro _ ⟨A, B, X, rfl, hAB, hB, hA⟩
            have hlen : (natL A ++ X :: natL B).length = A.length + 1 + B.length := by simp [natL_length]; omega
            simp (disch := omega) only [hlen, idxN_nat, Option.bind_some, atO_some (get_mid (A := A) (X := X)), set_mid]
            refine Ok.some_iff.2 ⟨A, B, ?_, hAB, hB, hA⟩
            rw [natL_append]; rfl
        · rintro _ ⟨A, B, rfl, hAB, hB, hA⟩
          simp (disch := omega) only [wrap_inc]
          subst hAB
          obtain ⟨r1, r2⟩ := IsSrt.put (n := l.length) (f := prL l) (K := fun v => - atV keys v) (p := p) hs1 hs2 hpp hB hA
          exact Ok.some_iff.2 ⟨rfl, _, rfl, r1, r2⟩
      · rw [decF hpp]
        simp (disch := omega) only [Bool.not_false, cond_true, Option.bind_some, wrap_inc]
        refine Ok.some_iff.2 ⟨rfl, s, rfl, hs1, fun x => ?_⟩
        rw [hs2 x]
        constructor
        · exact fun h => ⟨by omega, h.2⟩
        · rintro ⟨h1, h2⟩
          rcases Nat.lt_or_ge x c with h3 | h3
          · exact ⟨h3, h2⟩
          · obtain rfl : x = c := by omega
            exact absurd h2 hpp
    · rintro _ ⟨s, rfl, hs1, hs2⟩
      simp (disch := omega) only [cond_dec, if_neg]
      exact Ok.some_iff.2 ⟨s, ⟨hs1, hs2⟩, rfl⟩
end
noncomputable def keyS (l : List FrT) (keys : List Int) (v : Nat) : List Nat := srtK l.length (prL l) (fun x => - atV keys x) (v : Int)
noncomputable def keyR (l : List FrT) (keys : List Int) : List Nat := srtK l.length (prL l) (fun x => - atV keys x) (-1)
noncomputable def walkO (l : List FrT) (keys : List Int) : List Nat := ((keyR l keys).map (pS (keyS l keys))).flatten
theorem liu_ins (K : Nat → Int) (c : Nat) : ∀ s : List Nat, s.Pairwise (liu K) → c ∉ s → ∃ t : List Nat, t.Pairwise (liu K) ∧ t.Perm (c :: s) := by
  intro s
  induction s with
  | nil => intro _ _; exact ⟨[c], by simp, .refl _⟩
  | cons a s ih =>
    intro hs hc
    obtain ⟨h1, h2⟩ := List.pairwise_cons.1 hs
    have hca : c ≠ a := fun e => hc (by rw [e]; exact List.mem_cons_self ..)
    by_cases h : liu K c a
    · refine ⟨c :: a :: s, List.pairwise_cons.2 ⟨fun x hx => ?_, hs⟩, .refl _⟩
      rcases List.mem_cons.1 hx with rfl | hx
      · exact h
      · exact liu.trans h (h1 x hx)
    · have h' : liu K a c := by unfold liu at *; omega
      obtain ⟨t, t1, t2⟩ := ih h2 (fun h3 => hc (List.mem_cons_of_mem _ h3))
      refine ⟨a :: t, List.pairwise_cons.2 ⟨fun x hx => ?_, t1⟩, (t2.cons a).trans (.swap ..)⟩
      rcases List.mem_cons.1 (t2.mem_iff.1 hx) with rfl | hx
      · exact h'
      · exact h1 x hx
theorem liu_sort (K : Nat → Int) : ∀ s : List Nat, s.Nodup → ∃ t : List Nat, t.Pairwise (liu K) ∧ t.Perm s := by
  intro s
  induction s with
  | nil => intro _; exact ⟨[], by simp, .refl _⟩
  | cons c s ih =>
    intro hs
    obtain ⟨h1, h2⟩ := List.nodup_cons.1 hs
    obtain ⟨t, t1, t2⟩ := ih h2
    obtain ⟨u, u1, u2⟩ := liu_ins K c t t1 (fun h => h1 (t2.mem_iff.1 h))
    exact ⟨u, u1, u2.trans (t2.cons c)⟩
theorem srtK_is (n : Nat) (f K : Nat → Int) (p : Int) : IsSrt n f K p (srtK n f K p) := by
  classical
  obtain ⟨t, t1, t2⟩ := liu_sort K ((List.range n).filter fun c => decide (f c = p)) (List.Pairwise.filter _ List.nodup_range)
  have hI : IsSrt n f K p t := ⟨t1, fun x => by rw [t2.mem_iff]; simp⟩
  rw [hI.eq]; exact hI
section
variable {l : List FrT} (hp : Prp l) (keys : List Int)
include hp
theorem keyS_kids : KidsP l.length (prL l) (keyS l keys) := fun v hv => ⟨(srtK_is _ _ _ _).nodup, (srtK_is _ _ _ _).mem⟩
theorem keyR_is : (keyR l keys).Nodup ∧ ∀ x, x ∈ keyR l keys ↔ x < l.length ∧ prL l x = -1 := ⟨(srtK_is _ _ _ _).nodup, (srtK_is _ _ _ _).mem⟩
theorem walkD_deep : ∀ d v, v < d → v < l.length → ∀ out : List Nat, out.length + (blw (keyS l keys) v).length ≤ 4294967296 → r_sparselaw22q_walk d (l, (v : Int), keys, natL out, ()) = some (natL (out ++ blw (keyS l keys) v), ()) := by
  have hf := prL_pf hp
  have hS := keyS_kids hp keys
  intro d
  induction d with
  | zero => intro v h; omega
  | succ d ih =>
    intro v hd hv out hlen
    exact walk_body hp keys (f_ := r_sparselaw22q_walk d) (v : Int) (keyS l keys) (fun c hc _ => pS_eq hf hS hc)
      (fun c hc hcp out h => by
        have := hf c hc
        exact ih c (by omega) hc out h) out (srtK_is ..) hlen
theorem walkD_eq : d_sparselaw22q_walk (l, -1, keys, [], ()) = some (natL (walkO l keys), ()) := by
  have hf := prL_pf hp
  have hS := keyS_kids hp keys
  have hR := keyR_is hp keys
  have hn := hp.1
  have hall : (walkO l keys).length = l.length := (all_ok hf hS hR.1 hR.2).2.2
  unfold d_sparselaw22q_walk
  show fixO (deep r_sparselaw22q_walkq_s) _ = _
  rw [fixO_iff r_sparselaw22q_walkq_mono]
  exact ⟨l.length + 1, walk_body hp keys (f_ := r_sparselaw22q_walk l.length) (-1) (keyS l keys) (fun c hc _ => pS_eq hf hS hc)
    (fun c hc _ out h => walkD_deep hp keys l.length c hc hc out h) [] (srtK_is ..) (by
      show ([] : List Nat).length + (walkO l keys).length ≤ _
      rw [hall]; simp only [List.length_nil]; omega)⟩
end
end Go.Fw
end

section
namespace Go.Fw
set_option linter.unusedSimpArgs false
set_option linter.unusedVariables false
open Go
open Classical in
theorem cnt_filter (P : Nat → Prop) : ∀ n, cnt P n = ((List.range n).filter fun u => decide (P u)).length
  | 0 => rfl
  | n + 1 => by
      rw [List.range_succ, List.filter_append, List.length_append, ← cnt_filter P n]
      rcases cnt_succ P n with ⟨h, e⟩ | ⟨h, e⟩
      · rw [e]; simp [h]
      · rw [e]; simp [h]
theorem cnt_list {P : Nat → Prop} {n : Nat} {L : List Nat} (hd : L.Nodup) (h : ∀ u, u ∈ L ↔ u < n ∧ P u) : L.length = cnt P n := by
  classical
  rw [cnt_filter]
  refine Nat.le_antisymm (subset_le hd fun x hx => ?_) (subset_le (List.Pairwise.filter _ List.nodup_range) fun x hx => ?_)
  · simpa using (h x).1 hx
  · exact (h x).2 (by simpa using hx)
theorem ordN_natL {L : List Nat} {k : Nat} (hk : k < L.length) : ordN (natL L) k = L[k] := by
  unfold ordN
  rw [getD_lt (by rw [natL_length]; exact hk)]
  simp [natL]
section
variable {n : Nat} {f : Nat → Int} (hf : PF n f) {S : Nat → List Nat} (hS : KidsP n f S) {R : List Nat} (hR : R.Nodup) (hR2 : ∀ x, x ∈ R ↔ x < n ∧ f x = -1)
include hf hS hR hR2
theorem pS_infix : ∀ d v, n - v ≤ d → v < n → ∃ A B, (R.map (pS S)).flatten = A ++ pS S v ++ B := by
  intro d
  induction d with
  | zero => intro v h hv; omega
  | succ d ih =>
    intro v h hv
    have flat : ∀ {L : List Nat}, v ∈ L → ∃ A B, (L.map (pS S)).flatten = A ++ pS S v ++ B := fun {L} hL => by
      obtain ⟨s, t, rfl⟩ := List.append_of_mem hL
      exact ⟨(s.map (pS S)).flatten, (t.map (pS S)).flatten, by simp⟩
    rcases hf v hv with h1 | h1
    · exact flat ((hR2 v).2 ⟨hv, h1⟩)
    · obtain ⟨p, hp⟩ : ∃ p : Nat, f v = (p : Int) := ⟨(f v).toNat, by omega⟩
      obtain ⟨A, B, h2⟩ := ih p (by omega) (by omega)
      obtain ⟨A', B', h3⟩ := flat (((hS p (by omega)).2 v).2 ⟨hv, hp⟩)
      refine ⟨A ++ A', B' ++ [p] ++ B, ?_⟩
      rw [h2, pS_eq hf hS (by omega)]
      unfold blw
      rw [h3]
      simp
theorem all_perm : IsPerm (natL (R.map (pS S)).flatten) n := by
  obtain ⟨h1, h2, h3⟩ := all_ok hf hS hR hR2
  refine ⟨by rw [natL_length, h3], fun x hx => ?_, ?_⟩
  · obtain ⟨u, hu, rfl⟩ := List.mem_map.1 hx
    have := (h2 u).1 hu
    omega
  · exact List.Pairwise.map _ (fun a b hab e => hab (by omega)) h1
theorem all_proc : Proc n f (posN (natL (R.map (pS S)).flatten)) := by
  intro r hr
  obtain ⟨h1, h2, h3⟩ := all_ok hf hS hR hR2
  have hP := all_perm hf hS hR hR2
  obtain ⟨A, B, hAB⟩ := pS_infix hf hS hR hR2 n r (by omega) hr
  have hsz : (pS S r).length = sz n f r := cnt_list (pS_nodup hf hS r hr) fun u => by
    rw [mem_pS hf hS r hr]
    exact ⟨fun h => ⟨by have := (Sub.le hf h).1; omega, h⟩, fun h => h.2⟩
  have hpos : ∀ j, (hj : j < (pS S r).length) → posN (natL (R.map (pS S)).flatten) (pS S r)[j] = A.length + j := fun j hj => by
    have hl : A.length + j < ((R.map (pS S)).flatten).length := by rw [hAB]; simp; omega
    have e : ((R.map (pS S)).flatten)[A.length + j] = (pS S r)[j] := by
      simp only [hAB]
      rw [List.getElem_append_left (by simp; omega), List.getElem_append_right (by omega)]
      congr 1; omega
    rw [← e, ← ordN_natL hl]
    exact hP.pos_ord (by omega)
  have hlast : ∃ j, ∃ hj : j < (pS S r).length, (pS S r)[j] = r ∧ j + 1 = (pS S r).length := by
    have e := pS_eq hf hS hr
    refine ⟨(blw S r).length, by rw [e]; simp, ?_, by rw [e]; simp⟩
    simp only [e]
    rw [List.getElem_append_right (Nat.le_refl _)]; simp
  obtain ⟨jr, hjr, hr1, hr2⟩ := hlast
  have hrp : posN (natL (R.map (pS S)).flatten) r = A.length + jr := by
    have := hpos jr hjr; rw [hr1] at this; exact this
  have hge : ∀ u, Sub n f u r → ∃ j, j < (pS S r).length ∧ posN (natL (R.map (pS S)).flatten) u = A.length + j := fun u hu => by
    obtain ⟨j, hj, rfl⟩ := List.mem_iff_getElem.1 ((mem_pS hf hS r hr u).2 hu)
    exact ⟨j, hj, hpos j hj⟩
  refine ⟨fun i hi => ?_, fun m hm => ?_⟩
  · obtain ⟨j, hj, e⟩ := hge i hi
    omega
  · have hmin : IsMin (fun u => Sub n f u r) (posN (natL (R.map (pS S)).flatten)) A.length := by
      refine ⟨⟨(pS S r)[0], (mem_pS hf hS r hr _).1 (List.getElem_mem _), ?_⟩, fun u hu => ?_⟩
      · rw [hpos 0 (by omega)]; rfl
      · obtain ⟨j, hj, e⟩ := hge u hu
        omega
    have := hmin.uniq hm
    omega
end
theorem perm_sum {g : Nat → Int} {a b : List Nat} (h : a.Perm b) : (a.map g).sum = (b.map g).sum := by
  induction h with
  | nil => rfl
  | cons x _ ih => simp only [List.map_cons, List.sum_cons, ih]
  | swap x y l => simp only [List.map_cons, List.sum_cons]; omega
  | trans _ _ h1 h2 => rw [h1, h2]
def mx (a b : Int) : Int := if b > a then b else a
def stp (l : List FrT) (q : Int × Int) (v : Nat) : Int × Int := (q.1 - ksum l (kidsV (prL l) l.length v) + (kpE l v : Int), mx q.2 (q.1 + (frE l v : Int)))
theorem run_eq (l : List FrT) (L : List Nat) : ∀ k, k ≤ L.length → (stS l (natL L) k, pkS l (natL L) k) = (L.take k).foldl (stp l) (0, 0) := by
  intro k
  induction k with
  | zero => intro _; rfl
  | succ k ih =>
    intro hk
    rw [← take_snoc (show k < L.length by omega), List.foldl_append, ← ih (by omega)]
    show (stS l (natL L) k - ksum l (kidsV (prL l) l.length (ordN (natL L) k)) + (kpE l (ordN (natL L) k) : Int), if stS l (natL L) k + (frE l (ordN (natL L) k) : Int) > pkS l (natL L) k then stS l (natL L) k + (frE l (ordN (natL L) k) : Int) else pkS l (natL L) k) = _
    rw [ordN_natL (by omega)]
    rfl
noncomputable def ptp (l : List FrT) (S : Nat → List Nat) : Nat → Nat → Int
  | 0, _ => 0
  | d + 1, v => finP (cst (ptp l S d) (kpF l) (S v)) (frE l v : Int)
noncomputable def pT (l : List FrT) (S : Nat → List Nat) (v : Nat) : Int := ptp l S (v + 1) v
theorem foldl_congr_mem {α β : Type} {g g' : β → α → β} : ∀ {L : List α} {b : β}, (∀ b, ∀ x ∈ L, g b x = g' b x) → L.foldl g b = L.foldl g' b
  | [], _, _ => rfl
  | x :: L, b, h => by
      simp only [List.foldl_cons]
      rw [h b x (List.mem_cons_self ..)]
      exact foldl_congr_mem fun b y hy => h b y (List.mem_cons_of_mem _ hy)
theorem cst_congr {pk pk' kp : Nat → Int} {L : List Nat} (h : ∀ c ∈ L, pk c = pk' c) : cst pk kp L = cst pk' kp L := by
  unfold cst
  exact foldl_congr_mem fun b x hx => by rw [h x hx]
theorem cst_snd (pk kp : Nat → Int) : ∀ (L : List Nat), (cst pk kp L).2 = (L.map kp).sum := by
  have key : ∀ (L : List Nat) (q : Int × Int), (L.foldl (fun q c => (if q.2 + pk c > q.1 then q.2 + pk c else q.1, q.2 + kp c)) q).2 = q.2 + (L.map kp).sum := by
    intro L
    induction L with
    | nil => intro q; simp
    | cons c L ih => intro q; rw [List.foldl_cons, ih]; simp only [List.map_cons, List.sum_cons]; omega
  intro L
  unfold cst
  rw [key]; simp
section
variable {l : List FrT} (hp : Prp l) {S : Nat → List Nat} (hS : KidsP l.length (prL l) S)
include hp hS
theorem ptp_eq : ∀ v d, v < d → v < l.length → ptp l S d v = pT l S v := by
  have hf := prL_pf hp
  intro v
  induction v using Nat.strongRecOn with
  | ind v ih =>
    intro d hd hv
    obtain ⟨d, rfl⟩ : ∃ e, d = e + 1 := ⟨d - 1, by omega⟩
    unfold pT
    show finP (cst (ptp l S d) (kpF l) (S v)) _ = finP (cst (ptp l S v) (kpF l) (S v)) _
    rw [cst_congr fun c hc => by
      have hcv := KidsP.lt hf hS hv hc
      rw [ih c hcv d (by omega) (by omega), ← ih c hcv v hcv (by omega)]]
theorem pT_eq {v : Nat} (hv : v < l.length) : pT l S v = finP (cst (pT l S) (kpF l) (S v)) (frE l v : Int) := by
  have hf := prL_pf hp
  conv => lhs; unfold pT
  show finP (cst (ptp l S v) (kpF l) (S v)) _ = _
  rw [cst_congr fun c hc => by
      have hcv := KidsP.lt hf hS hv hc
      exact ptp_eq hp hS c v hcv (by omega)]
omit hS in
theorem sum_kp_nonneg : ∀ L : List Nat, 0 ≤ (L.map (kpF l)).sum
  | [] => by simp
  | c :: L => by
      have h1 := sum_kp_nonneg L
      have h2 := kpF_bd hp c
      simp only [List.map_cons, List.sum_cons]; omega
theorem pT_ge {v : Nat} (hv : v < l.length) : (frE l v : Int) ≤ pT l S v ∧ kpF l v ≤ pT l S v := by
  have h1 : (frE l v : Int) ≤ pT l S v := by
    rw [pT_eq hp hS hv]
    have h2 := cst_snd (pT l S) (kpF l) (S v)
    have h3 := sum_kp_nonneg hp (S v)
    unfold finP
    split <;> omega
  refine ⟨h1, ?_⟩
  have h4 := (hp.at hv).2.1
  have h5 : kpE l v ≤ frE l v := by
    unfold kpE frE tri
    exact Nat.div_le_div_right (Nat.mul_le_mul (by omega) (by omega))
  unfold kpF; omega
omit hS in
theorem ksum_kids {v : Nat} (hS2 : (S v).Nodup ∧ ∀ x, x ∈ S v ↔ x < l.length ∧ prL l x = (v : Int)) : ksum l (kidsV (prL l) l.length v) = ((S v).map (kpF l)).sum := by
  have hperm : ((List.range l.length).filter fun c => decide (prL l c = (v : Int))).Perm (S v) := (List.perm_ext_iff_of_nodup (List.Pairwise.filter _ List.nodup_range) hS2.1).2 fun x => by rw [hS2.2]; simp
  rw [← perm_sum hperm]
  unfold ksum kidsV
  rw [List.map_map]
  rfl
theorem run_list {L : List Nat} (hL : ∀ c ∈ L, c < l.length ∧ ∀ st pk : Int, st ≤ pk → (pS S c).foldl (stp l) (st, pk) = (st + kpF l c, mx pk (st + pT l S c))) (st pk : Int) (h : st ≤ pk) :
    ∀ i, i ≤ L.length → (cst (pT l S) (kpF l) (L.take i)).2 ≤ (cst (pT l S) (kpF l) (L.take i)).1 ∧ ((L.take i).map (pS S)).flatten.foldl (stp l) (st, pk) = (st + (cst (pT l S) (kpF l) (L.take i)).2, mx pk (st + (cst (pT l S) (kpF l) (L.take i)).1)) := by
  intro i
  induction i with
  | zero =>
    intro _
    refine ⟨by simp [cst], ?_⟩
    show (st, pk) = (st + 0, mx pk (st + 0))
    simp only [Prod.mk.injEq]
    refine ⟨by omega, ?_⟩
    unfold mx
    split <;> omega
  | succ i ih =>
    intro hi
    obtain ⟨h1, h2⟩ := ih (by omega)
    obtain ⟨hc, hc2⟩ := hL _ (List.getElem_mem (show i < L.length by omega))
    have hge := (pT_ge hp hS hc).2
    rw [take_succ_flat' (by omega), List.foldl_append, h2, cst_succ _ _ (by omega), hc2 _ _ (by unfold mx; split <;> omega)]
    refine ⟨by simp only; split <;> omega, ?_⟩
    simp only [Prod.mk.injEq]
    refine ⟨by omega, ?_⟩
    unfold mx
    repeat' split
    all_goals omega
theorem run_pS : ∀ v, v < l.length → ∀ st pk : Int, st ≤ pk → (pS S v).foldl (stp l) (st, pk) = (st + kpF l v, mx pk (st + pT l S v)) := by
  have hf := prL_pf hp
  intro v
  induction v using Nat.strongRecOn with
  | ind v ih =>
    intro hv st pk h
    obtain ⟨h1, h2⟩ := run_list hp hS (L := S v) (fun c hc => by
      have hcv := KidsP.lt hf hS hv hc
      exact ⟨by omega, ih c hcv (by omega)⟩) st pk h _ (Nat.le_refl _)
    rw [List.take_length] at h1 h2
    rw [pS_eq hf hS hv, List.foldl_append]
    unfold blw
    rw [h2, pT_eq hp hS hv]
    simp only [List.foldl_cons, List.foldl_nil]
    unfold stp
    rw [ksum_kids hp (hS v hv), ← cst_snd (pT l S)]
    simp only [Prod.mk.injEq]
    refine ⟨by unfold kpF; omega, ?_⟩
    unfold mx finP
    repeat' split
    all_goals omega
variable {R : List Nat} (hR : R.Nodup) (hR2 : ∀ x, x ∈ R ↔ x < l.length ∧ prL l x = -1)
include hR hR2
theorem pkS_all : pkS l (natL (R.map (pS S)).flatten) l.length = (cst (pT l S) (kpF l) R).1 := by
  have hf := prL_pf hp
  have h3 := (all_ok hf hS hR hR2).2.2
  have h1 := run_eq l (R.map (pS S)).flatten l.length (by omega)
  obtain ⟨h4, h2⟩ := run_list hp hS (L := R) (fun c hc => ⟨((hR2 c).1 hc).1, run_pS hp hS c ((hR2 c).1 hc).1⟩) 0 0 (Int.le_refl _) _ (Nat.le_refl _)
  rw [List.take_length] at h2 h4
  conv at h1 => rhs; rw [← h3, List.take_length]
  rw [h2] at h1
  have h5 : pkS l (natL (R.map (pS S)).flatten) l.length = mx 0 (0 + (cst (pT l S) (kpF l) R).1) := congrArg Prod.snd h1
  have h6 : 0 ≤ (cst (pT l S) (kpF l) R).2 := by rw [cst_snd]; exact sum_kp_nonneg hp R
  rw [h5]
  unfold mx
  split <;> omega
theorem simE_all : simE l (natL (R.map (pS S)).flatten) = ((cst (pT l S) (kpF l) R).1, 0) := by
  have hf := prL_pf hp
  have hP := all_perm hf hS hR hR2
  unfold simE
  rw [if_pos hp, if_pos hP.1, if_pos hP, if_pos (all_proc hf hS hR hR2), pkS_all hp hS hR hR2]
end
end Go.Fw
end

section
namespace Go.Fw
set_option linter.unusedSimpArgs false
set_option linter.unusedVariables false
open Go
def Fe (P kp : Nat → Int) (X : Int) : Int → List Nat → Prop
  | _, [] => True
  | h, c :: L => h + P c ≤ X ∧ Fe P kp X (h + kp c) L
theorem Fe_iff (P kp : Nat → Int) (X : Int) (L : List Nat) : (cst P kp L).1 ≤ X ↔ 0 ≤ X ∧ Fe P kp X 0 L := by
  have key : ∀ (L : List Nat) (q : Int × Int), (L.foldl (fun q c => (if q.2 + P c > q.1 then q.2 + P c else q.1, q.2 + kp c)) q).1 ≤ X ↔ q.1 ≤ X ∧ Fe P kp X q.2 L := by
    intro L
    induction L with
    | nil => intro q; simp [Fe]
    | cons c L ih =>
      intro q
      rw [List.foldl_cons, ih]
      show ((if q.2 + P c > q.1 then q.2 + P c else q.1) ≤ X ∧ _) ↔ q.1 ≤ X ∧ q.2 + P c ≤ X ∧ _
      split
      · exact ⟨fun h => ⟨by omega, h.1, h.2⟩, fun h => ⟨h.2.1, h.2.2⟩⟩
      · exact ⟨fun h => ⟨h.1, by omega, h.2⟩, fun h => ⟨h.1, h.2.2⟩⟩
  exact key L (0, 0)
theorem Fe_mem {P kp : Nat → Int} (hk : ∀ c, 0 ≤ kp c) {X : Int} : ∀ {L : List Nat} {h : Int}, 0 ≤ h → Fe P kp X h L → ∀ c ∈ L, P c ≤ X
  | [], _, _, _, c, hc => by cases hc
  | a :: L, h, h0, h2, c, hc => by
      rcases List.mem_cons.1 hc with rfl | hc
      · have := h2.1; omega
      · exact Fe_mem hk (by have := hk a; omega) h2.2 c hc
theorem Fe_sum {P kp G : Nat → Int} {X : Int} : ∀ {L : List Nat} {h : Int}, (∀ c ∈ L, P c ≤ G c ∧ kp c ≤ G c ∧ 0 ≤ G c) → h + (L.map G).sum ≤ X → Fe P kp X h L
  | [], _, _, _ => trivial
  | c :: L, h, hG, h2 => by
      have h1 := hG c (List.mem_cons_self ..)
      have hL := fun x hx => hG x (List.mem_cons_of_mem c hx)
      have h3 : 0 ≤ (L.map G).sum := by
        clear h2 hG
        induction L with
        | nil => simp
        | cons a L ih =>
          have := hL a (List.mem_cons_self ..)
          have := ih fun x hx => hL x (List.mem_cons_of_mem _ hx)
          simp only [List.map_cons, List.sum_cons]; omega
      simp only [List.map_cons, List.sum_cons] at h2
      exact ⟨by omega, Fe_sum hL (by omega)⟩
section
variable {l : List FrT} (hp : Prp l) {S : Nat → List Nat} (hS : KidsP l.length (prL l) S)
include hp hS
noncomputable def gTs (l : List FrT) (S : Nat → List Nat) (v : Nat) : Int := ((pS S v).map fun u => (frE l u : Int)).sum
omit hS hp in
theorem sum_flat {g : Nat → Int} {L : List Nat} : (((L.map (pS S)).flatten).map g).sum = (L.map fun c => ((pS S c).map g).sum).sum := by
  induction L with
  | nil => rfl
  | cons a L ih => simp only [List.map_cons, List.flatten_cons, List.map_append, List.sum_append, List.sum_cons, ih]
theorem gTs_eq {v : Nat} (hv : v < l.length) : gTs l S v = ((S v).map (gTs l S)).sum + (frE l v : Int) := by
  have hf := prL_pf hp
  unfold gTs
  rw [pS_eq hf hS hv, List.map_append, List.sum_append]
  unfold blw
  rw [sum_flat]
  simp
omit hS in
theorem kp_lt_fr {v : Nat} (hv : v < l.length) : kpE l v < frE l v := by
  have h4 := (hp.at hv).2.1
  unfold kpE frE
  have h2 : ∀ r, 2 * tri r = r * (r + 1) := fun r => by
    unfold tri
    have : r * (r + 1) % 2 = 0 := by
      rw [Nat.mul_mod]
      rcases Nat.mod_two_eq_zero_or_one r with h | h
      · rw [h]; simp
      · rw [Nat.add_mod, h]
    omega
  have a := h2 (kpN l v)
  have b := h2 (rwN l v)
  have c : (kpN l v + 1) * (kpN l v + 1 + 1) ≤ rwN l v * (rwN l v + 1) := Nat.mul_le_mul (by omega) (by omega)
  have d : (kpN l v + 1) * (kpN l v + 1 + 1) = kpN l v * (kpN l v + 1) + 2 * (kpN l v + 1) := by
    rw [Nat.mul_add, Nat.mul_comm (kpN l v + 1) (kpN l v + 1), Nat.add_mul]; omega
  omega
theorem pT_le : ∀ v, v < l.length → pT l S v ≤ gTs l S v ∧ kpF l v ≤ gTs l S v ∧ 0 ≤ gTs l S v := by
  have hf := prL_pf hp
  intro v
  induction v using Nat.strongRecOn with
  | ind v ih =>
    intro hv
    have hL : ∀ c ∈ S v, pT l S c ≤ gTs l S c ∧ kpF l c ≤ gTs l S c ∧ 0 ≤ gTs l S c := fun c hc => by
      have hcv := KidsP.lt hf hS hv hc
      exact ih c hcv (by omega)
    have hs0 : ∀ L : List Nat, (∀ c ∈ L, pT l S c ≤ gTs l S c ∧ kpF l c ≤ gTs l S c ∧ 0 ≤ gTs l S c) → 0 ≤ (L.map (gTs l S)).sum ∧ (L.map (kpF l)).sum ≤ (L.map (gTs l S)).sum := by
      intro L
      induction L with
      | nil => intro _; simp
      | cons a L ihL =>
        intro h
        have h1 := h a (List.mem_cons_self ..)
        have h2 := ihL fun x hx => h x (List.mem_cons_of_mem _ hx)
        simp only [List.map_cons, List.sum_cons]; omega
    have h1 : (cst (pT l S) (kpF l) (S v)).1 ≤ ((S v).map (gTs l S)).sum := (Fe_iff _ _ _ _).2 ⟨(hs0 _ hL).1, Fe_sum hL (by omega)⟩
    have h2 := cst_snd (pT l S) (kpF l) (S v)
    have h3 := hs0 _ hL
    have h4 := kp_lt_fr hp hv
    rw [pT_eq hp hS hv, gTs_eq hp hS hv]
    have h5 : kpF l v = (kpE l v : Int) := rfl
    unfold finP
    refine ⟨?_, by omega, by omega⟩
    split <;> omega
variable {R : List Nat} (hR : R.Nodup) (hR2 : ∀ x, x ∈ R ↔ x < l.length ∧ prL l x = -1)
include hR hR2
theorem peak_le : (cst (pT l S) (kpF l) R).1 ≤ ((List.range l.length).map fun u => (frE l u : Int)).sum := by
  have hf := prL_pf hp
  have hL : ∀ c ∈ R, pT l S c ≤ gTs l S c ∧ kpF l c ≤ gTs l S c ∧ 0 ≤ gTs l S c := fun c hc => pT_le hp hS c ((hR2 c).1 hc).1
  obtain ⟨h1, h2, h3⟩ := all_ok hf hS hR hR2
  have hperm : ((R.map (pS S)).flatten).Perm (List.range l.length) := (List.perm_ext_iff_of_nodup h1 List.nodup_range).2 fun u => by rw [h2, List.mem_range]
  rw [← perm_sum hperm, sum_flat]
  have hsum0 : 0 ≤ (R.map (gTs l S)).sum := by
    clear hR hR2 h1 h2 h3 hperm
    induction R with
    | nil => simp
    | cons a L ih =>
      have := hL a (List.mem_cons_self ..)
      have := ih fun x hx => hL x (List.mem_cons_of_mem _ hx)
      simp only [List.map_cons, List.sum_cons]; omega
  exact (Fe_iff _ _ _ _).2 ⟨hsum0, Fe_sum hL (by show 0 + (R.map (gTs l S)).sum ≤ (R.map (gTs l S)).sum; omega)⟩
theorem fr_le_peak {v : Nat} (hv : v < l.length) : (frE l v : Int) ≤ (cst (pT l S) (kpF l) R).1 := by
  have hf := prL_pf hp
  have hk : ∀ c, 0 ≤ kpF l c := fun c => (kpF_bd hp c).1
  have ge : ∀ (L : List Nat) (c : Nat), c ∈ L → pT l S c ≤ (cst (pT l S) (kpF l) L).1 := fun L c hc =>
    Fe_mem hk (Int.le_refl 0) ((Fe_iff _ _ _ _).1 (Int.le_refl _)).2 c hc
  have key : ∀ d v, l.length - v ≤ d → v < l.length → pT l S v ≤ (cst (pT l S) (kpF l) R).1 := by
    intro d
    induction d with
    | zero => intro v h hv; omega
    | succ d ih =>
      intro v h hv
      rcases hf v hv with h1 | h1
      · exact ge R v ((hR2 v).2 ⟨hv, h1⟩)
      · obtain ⟨p, hpp⟩ : ∃ p : Nat, prL l v = (p : Int) := ⟨(prL l v).toNat, by omega⟩
        have h2 := ih p (by omega) (by omega)
        have h3 := ge (S p) v (((hS p (by omega)).2 v).2 ⟨hv, hpp⟩)
        rw [pT_eq hp hS (show p < l.length by omega)] at h2
        unfold finP at h2
        split at h2 <;> omega
  have h1 := key _ v (Nat.le_refl _) hv
  have h2 := (pT_ge hp hS hv).1
  omega
end
end Go.Fw
end

section
namespace Go.Fw
set_option linter.unusedSimpArgs false
set_option linter.unusedVariables false
open Go
section
variable {n : Nat} (hn : n ≤ 12) (l s keys : List Int)
include hn
theorem simW : simE (forE n l s) (natL (walkO (forE n l s) keys)) = ((cst (pT (forE n l s) (keyS (forE n l s) keys)) (kpF (forE n l s)) (keyR (forE n l s) keys)).1, 0) := by
  have hp := forE_prp (show n ≤ 200 by omega) l s
  exact simE_all hp (keyS_kids hp keys) (keyR_is hp keys).1 (keyR_is hp keys).2
theorem walkO_length : (walkO (forE n l s) keys).length = n := by
  have hp := forE_prp (show n ≤ 200 by omega) l s
  have := (all_ok (prL_pf hp) (keyS_kids hp keys) (keyR_is hp keys).1 (keyR_is hp keys).2).2.2
  rw [forE_length (by omega)] at this
  exact this
theorem forSim (o : List Int) (ho : o.length ≤ 4000) : d_memory_Simulate (forE n l s, o, ()) = some ((simE (forE n l s) o).1, (simE (forE n l s) o).2, ()) ∧ d_sparseref22q_Simulate (forE n l s, o, ()) = some ((simE (forE n l s) o).1, (simE (forE n l s) o).2, ()) :=
  ⟨Simulate_eq (forE_inR (by omega) l s) (forE_rows (by omega) l s) o ho, refSimulate_eq (forE_inR (by omega) l s) (forE_rows (by omega) l s) o ho⟩
end
end Go.Fw
end

section
namespace Go.Fw
set_option linter.unusedSimpArgs false
set_option linter.unusedVariables false
open Go
theorem tri_two (r : Nat) : 2 * tri r = r * (r + 1) := by
  unfold tri
  have : r * (r + 1) % 2 = 0 := by
    rw [Nat.mul_mod]
    rcases Nat.mod_two_eq_zero_or_one r with h | h
    · rw [h]; simp
    · rw [Nat.add_mod, h]
  omega
theorem sum_range_succ (g : Nat → Int) (v : Nat) : ((List.range (v + 1)).map g).sum = ((List.range v).map g).sum + g v := by
  rw [List.range_succ, List.map_append, List.sum_append]; simp
theorem sum_range_le {g : Nat → Int} {M : Int} (h : ∀ v, 0 ≤ g v ∧ g v ≤ M) : ∀ v : Nat, 0 ≤ ((List.range v).map g).sum ∧ ((List.range v).map g).sum ≤ (v : Int) * M
  | 0 => by simp
  | v + 1 => by
      have h1 := sum_range_le h v
      have h2 := h v
      rw [sum_range_succ, Int.natCast_succ, Int.add_mul]
      omega
theorem MemoryBounds_true (n : Int) (l s keys : List Int) : d_sparselaw22q_MemoryBounds (n, l, s, keys, ()) = some (true, ()) := by
  classical
  unfold d_sparselaw22q_MemoryBounds
  obtain ⟨m, hm, hm2⟩ := place_nat n 11 (by omega)
  simp (disch := omega) only [Place_eq, hm, Option.bind_some]
  by_cases h1 : ((l.length : Nat) : Int) > 40
  · simp only [decT h1, show (true == false) = false from rfl, cond_false, Option.bind_some, cond_true, awake22]
  by_cases h2 : ((s.length : Nat) : Int) > 40
  · simp only [decF h1, decT h2, show (true == false) = false from rfl, beq_self_eq_true, cond_false, Option.bind_some, cond_true, awake22]
  by_cases h3 : ((keys.length : Nat) : Int) > 40
  · simp only [decF h1, decF h2, decT h3, beq_self_eq_true, cond_false, Option.bind_some, cond_true, awake22]
  have hm3 : m ≤ 12 := by omega
  have hm4 : m ≤ 200 := by omega
  have hwl := walkO_length hm3 l s keys
  have hp := forE_prp (show m ≤ 200 by omega) l s
  have hl := forE_length hm4 l s
  have hr := forE_inR hm4 l s
  have hs1 := (forSim hm3 l s (natL (walkO (forE m l s) keys)) (by rw [natL_length]; omega)).1
  have hsz : d_memory_Sizes (forE m l s, ()) = some (fT m (fun i => (frE (forE m l s) i : Int)), fT m (fun i => (kpE (forE m l s) i : Int)), 0, ()) := by
    unfold d_memory_Sizes
    have := sizes_eq hp hr
    rw [hl] at this
    simp only [proper_eq hr (forE_rows hm4 l s), Option.bind_some, cond_not_dec, if_pos hp, this]
  have hfr : ∀ v, v < m → (frE (forE m l s) v : Int) ≤ (cst (pT (forE m l s) (keyS (forE m l s) keys)) (kpF (forE m l s)) (keyR (forE m l s) keys)).1 := fun v hv =>
    fr_le_peak hp (keyS_kids hp keys) (keyR_is hp keys).1 (keyR_is hp keys).2 (by omega)
  have hsum := peak_le hp (keyS_kids hp keys) (keyR_is hp keys).1 (keyR_is hp keys).2
  rw [hl] at hsum
  simp only [decF h1, decF h2, decF h3, beq_self_eq_true, cond_false, Option.bind_some, cond_true, forest_eq (show m ≤ 200 by omega), hsz, walkD_eq hp, hs1, simW hm3, bne_self_eq_false, fT_length]
  generalize (cst (pT (forE m l s) (keyS (forE m l s) keys)) (kpF (forE m l s)) (keyR (forE m l s) keys)).1 = a at hfr hsum
  refine bindR (.inl (((List.range m).map fun u => (frE (forE m l s) u : Int)).sum, ())) ?_
    (loop_seq m (fun v => (((List.range v).map fun u => (frE (forE m l s) u : Int)).sum, (v : Int), ())) 0 rfl (Nat.zero_le _) ?_ ?_)
  · simp only [decT hsum, beq_self_eq_true, cond_true, awake22, Option.bind_some]
  · intro v _ hv
    have hvl : v < (forE m l s).length := by omega
    have hgf : getI (forE m l s) (v : Int) = some (forE m l s)[v] := getN_some (List.getElem?_eq_getElem hvl)
    have hrow := (hp.at hvl).2.2.1
    have hrl := (hp.at hvl).1
    have hlt := kp_lt_fr hp hvl
    have hfl := frE_le hp v
    have hv2 := hfr v hv
    have hb := sum_range_le (g := fun u => (frE (forE m l s) u : Int)) (M := 20100) (fun u => by have := frE_le hp u; omega) v
    have ht := tri_two (rwN (forE m l s) v)
    have hfe : frE (forE m l s) v = tri (rwN (forE m l s) v) := rfl
    have hw1 : IntKind.i64.wrap (2 * (frE (forE m l s) v : Int)) = ((2 * frE (forE m l s) v : Nat) : Int) := by rw [wrap64] <;> omega
    have hw2 : IntKind.i64.wrap (((rwN (forE m l s) v : Nat) : Int) + 1) = ((rwN (forE m l s) v + 1 : Nat) : Int) := wrap_inc (by omega)
    have hw3 : IntKind.i64.wrap (((rwN (forE m l s) v : Nat) : Int) * ((rwN (forE m l s) v + 1 : Nat) : Int)) = ((2 * frE (forE m l s) v : Nat) : Int) := by
      rw [hfe, ht, ← Int.natCast_mul, wrap64]
      · omega
      · rw [← ht, ← hfe]; omega
    have hd1 : ¬ (frE (forE m l s) v : Int) > a := by omega
    have hd2 : ¬ (kpE (forE m l s) v : Int) ≥ (frE (forE m l s) v : Int) := by omega
    have hw4 : IntKind.i64.wrap (((List.range v).map fun u => (frE (forE m l s) u : Int)).sum + (frE (forE m l s) v : Int)) = ((List.range (v + 1)).map fun u => (frE (forE m l s) u : Int)).sum := by
      rw [sum_range_succ, wrap64] <;> omega
    simp (disch := omega) only [cond_dec, if_pos, hgf, Option.bind_some, getI_fT, decF hd1, decF hd2, beq_self_eq_true, cond_true, hw1, hrow, hw2, hw3, bne_self_eq_false, cond_false, hw4, wrap_inc]
  · simp (disch := omega) only [cond_dec, if_neg]
end Go.Fw
end
